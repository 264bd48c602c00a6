/- Contracts of the program's functions and plain laws for the law GainReads, several texts in one (part 3). Conditions: each theorem's own. -/
import Derived.Test.YtiabenmgbikllaaQGainReadsb
import Derived.Outline
import Derived.Handy
import Derived.Test.YtiabenmgbikllaaPAllx2
-- Whole numbers of chapter 1: clamped, multiplied, powers of two. Conditions: none.
namespace Go.Proofs.Ytiabenmgbikllaa.M
set_option linter.unusedVariables false
open Go.RowKit Go.Proofs.YtiabenmgbikllaaW.PrintWords Go.Proofs.YtiabenmgbikllaaW.PrintLast Go.Proofs.YtiabenmgbikllaaW.PrintMore Go.Proofs.Ytiabenmgbikllaa.PAll
attribute [local go_sem] max2_int min2_int max_two min_two max_three min_three max_four min_four

def clampI (a lo hi : Int) : Int := if lo > hi then lo else if a < lo then lo else if a > hi then hi else a
theorem clamp_f (a lo hi : Int) : fix_Clamp.f 1 a lo hi = some (clampI a lo hi) := by
  unfold fix_Clamp.f clampI
  by_cases h1 : lo > hi
  · rw [if_pos h1, if_pos h1]; simp [fix_Clamp.j0]
  · rw [if_neg h1, if_neg h1]
    by_cases h2 : a < lo
    · rw [if_pos h2]; simp [fix_Clamp.j0, h2]
    · rw [if_neg h2]; simp only [fix_Clamp.j0, h2, decide_false]
      by_cases h3 : a > hi
      · rw [if_pos h3]; simp [h3]
      · rw [if_neg h3]; simp [h3]
theorem clampI_range (a lo hi : Int) (h : lo ≤ hi) : lo ≤ clampI a lo hi ∧ clampI a lo hi ≤ hi := by
  unfold clampI
  rw [if_neg (by omega)]
  split
  · omega
  · split <;> omega
theorem clampI_id (a lo hi : Int) (h0 : lo ≤ a) (h1 : a ≤ hi) : clampI a lo hi = a := by
  unfold clampI
  rw [if_neg (by omega), if_neg (by omega), if_neg (by omega)]
def mulI (a b : Int) (s : Nat) : Int :=
  if s = 0 then clampI a (-2147483648) 2147483648 * clampI b (-2147483648) 2147483648
  else (clampI a (-2147483648) 2147483648 * clampI b (-2147483648) 2147483648 + 2 ^ (s - 1)) / 2 ^ s
theorem mul_bound (x y : Int) (hx0 : -2147483648 ≤ x) (hx1 : x ≤ 2147483648) (hy0 : -2147483648 ≤ y) (hy1 : y ≤ 2147483648) : -4611686018427387904 ≤ x * y ∧ x * y ≤ 4611686018427387904 := by
  have h1 : x.natAbs ≤ 2147483648 := by omega
  have h2 : y.natAbs ≤ 2147483648 := by omega
  have h3 : (x * y).natAbs ≤ 2147483648 * 2147483648 := by rw [Int.natAbs_mul]; exact Nat.mul_le_mul h1 h2
  omega
theorem mul_f (a b : Int) (s : Nat) (hs : s ≤ 62) : fix_Mul.f 1 a b s = some (mulI a b s) := by
  have ca := clampI_range a (-2147483648) 2147483648 (by decide)
  have cb := clampI_range b (-2147483648) 2147483648 (by decide)
  have hm := mul_bound _ _ ca.1 ca.2 cb.1 cb.2
  unfold fix_Mul.f fix_factor.f mulI
  rw [clamp_f, clamp_f]
  simp only [Option.bind_some]
  generalize clampI a (-2147483648) 2147483648 * clampI b (-2147483648) 2147483648 = p at hm
  have hw : wrap64 p = p := by unfold wrap64; omega
  rw [hw]
  by_cases h0 : s = 0
  · rw [if_pos (by omega), if_pos h0]
  · have h1 : wrap64 ((s : Int) - 1) = ((s - 1 : Nat) : Int) := by unfold wrap64; omega
    rw [if_neg (by omega), if_neg (by omega), if_neg (by omega), h1, if_pos (by omega), if_pos (by omega), if_neg h0]
    have hp : (2 : Int) ^ (s - 1) ≤ 2305843009213693952 ∧ 0 < (2 : Int) ^ (s - 1) := by
      constructor
      · have : (2 : Nat) ^ (s - 1) ≤ 2 ^ 61 := Nat.pow_le_pow_right (by decide) (by omega)
        have h2 : ((2 ^ (s - 1) : Nat) : Int) ≤ ((2 ^ 61 : Nat) : Int) := Int.ofNat_le.2 this
        simpa using h2
      · exact Int.pow_pos (by decide)
    have hsl : shl .i64 1 ((s - 1 : Nat) : Int) = 2 ^ (s - 1) := by
      unfold shl
      rw [Int.toNat_natCast, Nat.min_eq_left (by show s - 1 ≤ 64; omega), Int.one_mul, IntKind.wrap_i64]
      generalize (2 : Int) ^ (s - 1) = q at hp
      omega
    rw [hsl]
    have hw2 : wrap64 (p + 2 ^ (s - 1)) = p + 2 ^ (s - 1) := by
      generalize (2 : Int) ^ (s - 1) = q at hp
      unfold wrap64; omega
    rw [hw2]
    unfold shr
    rw [Int.toNat_natCast, Nat.min_eq_left (by show s ≤ 64; omega)]
theorem mul_calls (w : World) (a b : Int) (s : Nat) (hs : s ≤ 62) : Calls Try.prog 121 #[.int .i64 a, .int .i64 b, .int .i64 s] w fun r w' => r = .returned (.int .i64 (mulI a b s)) ∧ ∃ n, w' = w.drewN n :=
  (fix_Mul.calls 1 a b s _ w (mul_f a b s hs)).mono fun r w' ⟨h1, h2⟩ => ⟨h1, h2.out⟩
theorem clamp_calls (w : World) (a lo hi : Int) : Calls Try.prog 65 #[.int .i64 a, .int .i64 lo, .int .i64 hi] w fun r w' => r = .returned (.int .i64 (clampI a lo hi)) ∧ ∃ n, w' = w.drewN n :=
  (fix_Clamp.calls 1 a lo hi _ w (clamp_f a lo hi)).mono fun r w' ⟨h1, h2⟩ => ⟨h1, h2.out⟩

/-- The factors of a power of two. -/
def expC : List Int := [1518500250, 1276901417, 1170923762, 1121280436, 1097253708, 1085434106, 1079572136, 1076653033]
def expL (f : Int) : Nat → Int
  | 0 => 1073741824
  | k + 1 => if f / 2 ^ (7 - k) % 2 = 1 then mulI (expL f k) (expC.getD k 0) 30 else expL f k
def exp2 (q : Int) : Int := if q / 256 = 30 then expL (q % 256) 8 else mulI (expL (q % 256) 8) 1 (30 - q / 256).toNat

def expAgg : Value := .agg #[.int .i64 1518500250, .int .i64 1276901417, .int .i64 1170923762, .int .i64 1121280436, .int .i64 1097253708, .int .i64 1085434106, .int .i64 1079572136, .int .i64 1076653033]
theorem expIdx (w : World) : ∀ k : Nat, k < 8 → (Instr.index 125 (.agg #[.int .i64 1518500250, .int .i64 1276901417, .int .i64 1170923762, .int .i64 1121280436, .int .i64 1097253708, .int .i64 1085434106, .int .i64 1079572136, .int .i64 1076653033]) (.int .i64 k)).run Try.prog w = .ok (.int .i64 (expC.getD k 0)) w
  | 0, _ => by kernel_rfl
  | 1, _ => by kernel_rfl
  | 2, _ => by kernel_rfl
  | 3, _ => by kernel_rfl
  | 4, _ => by kernel_rfl
  | 5, _ => by kernel_rfl
  | 6, _ => by kernel_rfl
  | 7, _ => by kernel_rfl
  | k + 8, h => absurd h (by omega)

set_option maxHeartbeats 1000000 in
set_option maxRecDepth 100000 in
theorem exp2_calls (w : World) (q : Int) (h0 : 0 ≤ q) (h1 : q ≤ 7935) :
    Calls Try.prog 67 #[.int .i64 q] w fun r w' => r = .returned (.int .i64 (exp2 q)) ∧ ∃ n, w' = w.drewN n := by
  have hcl := Aside0.mk (clampI_id q 0 7935 h0 h1)
  have hand : bits .and .i64 q 255 = q % 256 := bits_mask .i64 63 (by decide) (fun n a b => IntWalk.i64_in _ (by omega)) 8 (by decide) q h0 (by omega)
  go_enter Try.func67, Try.ntmps67
  go_wp2_with (go_at_call 65; refine (clamp_calls _ q 0 7935).mono ?_; rintro r w1 ⟨rfl, nd, rfl⟩; rw [hcl.out])
  obtain ⟨f, hf⟩ : ∃ f : Int, f = q % 256 := ⟨_, rfl⟩
  obtain ⟨n, hn⟩ : ∃ n : Int, n = q / 256 := ⟨_, rfl⟩
  have hf0 : 0 ≤ f := by omega
  have hf1 : f < 256 := by omega
  have hn0 : 0 ≤ n := by omega
  have hn1 : n ≤ 30 := by omega
  have HF := Aside0.mk (And.intro hf hn)
  rw [← hf, ← hn]
  clear hf hn hand hcl h0 h1
  go_loopg [5, 6, 7, 15] 8 (fun k u5 u6 u7 u15 wr => ∃ i : Nat, u15 = .int .i64 i ∧ k + i = 8 ∧ u5 = .int .i64 (expL f i) ∧ ∃ nd, wr = w.drewN nd)
  case atStart => exact ⟨0, rfl, rfl, rfl, _, rfl⟩
  case round =>
    obtain ⟨i, rfl, hk, rfl, nd', rfl⟩ := hrel
    by_cases hi : i < 8
    · have hx := fun w' => expIdx w' i hi
      have hd0 : 0 ≤ f / 2 ^ (7 - i) := Int.ediv_nonneg hf0 (Int.le_of_lt (Int.pow_pos (by decide)))
      have hd1 : f / 2 ^ (7 - i) ≤ f := Int.ediv_le_self _ hf0
      have hand : bits .and .i64 (f / 2 ^ (7 - i)) 1 = f / 2 ^ (7 - i) % 2 := bits_mask .i64 63 (by decide) (fun n a b => IntWalk.i64_in _ (by omega)) 1 (by decide) _ hd0 (by omega)
      by_cases hb : f / 2 ^ (7 - i) % 2 = 1
      · have hbb : (f / 2 ^ (7 - i) % 2 == 1) = true := by rw [hb]; rfl
        have HS : Aside0 (expL f (i + 1) = mulI (expL f i) (expC.getD i 0) 30) := ⟨by show (if _ then _ else _) = _; rw [if_pos hb]⟩
        clear hb
        go_wp2_with (go_at_call 121; refine (mul_calls _ (expL f i) (expC.getD i 0) 30 (by omega)).mono ?_; rintro r w1 ⟨rfl, n1, rfl⟩)
        go_roundg (gk - 1)
        case measure => omega
        case rel => exact ⟨i + 1, by go_num, by omega, by rw [HS.out]; rfl, _, rfl⟩
      · have hbb : (f / 2 ^ (7 - i) % 2 == 1) = false := by simpa using hb
        have HS : Aside0 (expL f (i + 1) = expL f i) := ⟨by show (if _ then _ else _) = _; rw [if_neg hb]⟩
        clear hb
        go_wp2
        go_roundg (gk - 1)
        case measure => omega
        case rel => exact ⟨i + 1, by go_num, by omega, by rw [HS.out], _, rfl⟩
    · have h8 : i = 8 := by omega
      subst h8
      by_cases hn : n = 30
      · have hnb : (n == 30) = true := by rw [hn]; rfl
        have HE : Aside0 (exp2 q = expL f 8) := ⟨by rw [exp2, ← HF.out.1, ← HF.out.2, if_pos hn]⟩
        clear hn
        go_wp2
        go_returns
        exact ⟨by rw [HE.out]; rfl, _, rfl⟩
      · have hnb : (n == 30) = false := by simpa using hn
        obtain ⟨m, hm⟩ : ∃ m : Nat, 30 - n = m := Int.eq_ofNat_of_zero_le (by omega)
        have HE : Aside0 (exp2 q = mulI (expL f 8) 1 m) := ⟨by rw [exp2, ← HF.out.1, ← HF.out.2, if_neg hn, hm]; rfl⟩
        have hm30 : m ≤ 30 := by omega
        clear hn
        go_wp2_with (go_at_call 121; refine (mul_calls _ (expL f 8) 1 m (by omega)).mono ?_; rintro r w1 ⟨rfl, n1, rfl⟩)
        go_returns
        exact ⟨by rw [HE.out]; rfl, _, rfl⟩
end Go.Proofs.Ytiabenmgbikllaa.M

-- Loudness: how loud, and the nearest. Conditions: none.
namespace Go.Proofs.Ytiabenmgbikllaa.M
set_option linter.unusedVariables false
open Go.RowKit Go.Proofs.YtiabenmgbikllaaW.PrintWords Go.Proofs.YtiabenmgbikllaaW.PrintLast Go.Proofs.YtiabenmgbikllaaW.PrintMore Go.Proofs.Ytiabenmgbikllaa.PAll
attribute [local go_sem] max2_int min2_int max_two min_two max_three min_three max_four min_four

/-- A loudness within its bounds. -/
def gcl (g : Int) : Int := clampI g 0 63
theorem gclamp_f (g : Int) : gain_clamp.f g = some (gcl g) := by
  unfold gain_clamp.f gcl clampI mn mx
  congr 1
  have e : ¬ (0 : Int) > 63 := by decide
  rw [if_neg e]
  by_cases h1 : g < 0
  · simp [h1]
  · by_cases h2 : 63 < g
    · simp [h1, h2]
    · simp [h1, h2]
theorem gclamp_calls (w : World) (g : Int) : Calls Try.prog 68 #[.int .i64 g] w fun r w' => r = .returned (.int .i64 (gcl g)) ∧ Chg w w' No :=
  (gain_clamp.calls g _ w (gclamp_f g)).mono fun r w' ⟨h1, h2⟩ => ⟨h1, Chg.of_below h2 No⟩
theorem gcl_range (g : Int) : 0 ≤ gcl g ∧ gcl g ≤ 63 := clampI_range g 0 63 (by decide)
def loud (g : Int) : Int := exp2 (70 * gcl g)

set_option maxHeartbeats 1000000 in
set_option maxRecDepth 100000 in
theorem loud_calls (w : World) (g : Int) : Calls Try.prog 20 #[.int .i64 g] w fun r w' => r = .returned (.int .i64 (loud g)) ∧ Chg w w' No := by
  obtain ⟨c0, c1⟩ := gcl_range g
  go_enter Try.func20, Try.ntmps20
  go_wp2_with (first
    | (go_at_call 68; refine (gclamp_calls _ g).mono ?_; rintro r w1 ⟨rfl, h1⟩; have H1 := Aside0.mk h1; clear h1)
    | (go_at_call 67; refine (exp2_calls _ (70 * gcl g) (by omega) (by omega)).mono ?_; rintro r w2 ⟨rfl, n, rfl⟩))
  go_returns
  exact ⟨rfl, H1.out.drewN _⟩

/-- The table of loudness. -/
def loudT : List Int := (List.range 64).map fun g : Nat => loud (g : Int)
theorem loudT_eq : loudT = [1, 1, 1, 2, 2, 3, 3, 4, 5, 6, 7, 8, 10, 12, 14, 17, 21, 25, 30, 37, 44, 54, 65, 78, 95, 114, 138, 167, 202, 244, 295, 356, 431, 520, 629, 760, 919, 1111, 1342, 1623, 1961, 2370, 2865, 3463, 4186, 5059, 6115, 7391, 8933, 10798, 13051, 15775, 19066, 23045, 27855, 33667, 40693, 49185, 59449, 71856, 86851, 104975, 126882, 153360] := by decide +kernel
theorem gcl_id (g : Int) (h0 : 0 ≤ g) (h1 : g ≤ 63) : gcl g = g := clampI_id g 0 63 h0 h1
theorem loud_gcl (g : Int) : loud (gcl g) = loud g := by
  have := gcl_range g
  unfold loud
  rw [gcl_id (gcl g) this.1 this.2]
theorem loud_at (g : Nat) (h : g < 64) : loud g = loudT.getD g 0 := by simp [loudT, h]
theorem loudT_ok : loudT.length = 64 ∧ (∀ i : Fin 63, loudT.getD i 0 ≤ loudT.getD (i + 1) 0) ∧ loudT.getD 0 0 = 1 ∧ loudT.getD 63 0 = 153360 := by
  rw [loudT_eq]; decide
theorem loud_step (g : Nat) (h : g < 63) : loud g ≤ loud (g + 1 : Nat) := by
  rw [loud_at g (by omega), loud_at (g + 1) (by omega)]
  exact loudT_ok.2.1 ⟨g, h⟩
theorem loud_mono (a b : Nat) (h : a ≤ b) (hb : b < 64) : loud a ≤ loud b := by
  induction b with
  | zero => rw [show a = 0 by omega]; exact Int.le_refl _
  | succ b ih =>
    by_cases hab : a = b + 1
    · rw [hab]; exact Int.le_refl _
    · exact Int.le_trans (ih (by omega) (by omega)) (loud_step b (by omega))
theorem loud_range (g : Int) : 1 ≤ loud g ∧ loud g ≤ 153360 := by
  have hg := gcl_range g
  rw [← loud_gcl]
  obtain ⟨n, hn⟩ := Int.eq_ofNat_of_zero_le hg.1
  rw [hn]
  have h0 := loud_mono 0 n (by omega) (by omega)
  have h1 := loud_mono n 63 (by omega) (by omega)
  have e0 : loud (0 : Nat) = 1 := by rw [loud_at 0 (by omega)]; exact loudT_ok.2.2.1
  have e1 : loud (63 : Nat) = 153360 := by rw [loud_at 63 (by omega)]; exact loudT_ok.2.2.2
  omega

def dist (a b : Int) : Int := if a - b < b - a then b - a else a - b
theorem dist_abs (a b : Int) : 0 ≤ dist a b ∧ (dist a b = a - b ∨ dist a b = b - a) := by unfold dist; split <;> omega
theorem far_calls (w : World) (a b : Int) (ha : -1152921504606846976 ≤ a ∧ a ≤ 1152921504606846976) (hb : -1152921504606846976 ≤ b ∧ b ≤ 1152921504606846976) :
    Calls Try.prog 66 #[.int .i64 a, .int .i64 b] w fun r w' => r = .returned (.int .i64 (dist a b)) ∧ Chg w w' No := by
  have e : gain_far.f a b = some (dist a b) := by
    unfold gain_far.f dist mx
    rw [show wrap64 (a - b) = a - b from by unfold wrap64; omega, show wrap64 (b - a) = b - a from by unfold wrap64; omega]
  exact (gain_far.calls a b _ w e).mono fun r w' ⟨h1, h2⟩ => ⟨h1, Chg.of_below h2 No⟩

/-- The nearest of the first ones. -/
def nearN (v : Int) : Nat → Nat
  | 0 => 0
  | g + 1 => if dist (loud (g + 1 : Nat)) v < dist (loud (nearN v g)) v then g + 1 else nearN v g
theorem nearN_le (v : Int) : ∀ g, nearN v g ≤ g
  | 0 => Nat.le_refl _
  | g + 1 => by
    have := nearN_le v g
    unfold nearN; split <;> omega
theorem nearN_best (v : Int) : ∀ g k : Nat, k ≤ g → dist (loud (nearN v g)) v ≤ dist (loud k) v ∧ (dist (loud k) v = dist (loud (nearN v g)) v → nearN v g ≤ k)
  | 0, k, h => by rw [show k = 0 by omega]; exact ⟨Int.le_refl _, fun _ => Nat.le_refl _⟩
  | g + 1, k, h => by
    have hle := nearN_le v g
    unfold nearN
    by_cases hc : dist (loud (g + 1 : Nat)) v < dist (loud (nearN v g)) v
    · rw [if_pos hc]
      by_cases hk : k = g + 1
      · rw [hk]; exact ⟨Int.le_refl _, fun _ => Nat.le_refl _⟩
      · have := nearN_best v g k (by omega)
        exact ⟨by omega, fun he => by omega⟩
    · rw [if_neg hc]
      by_cases hk : k = g + 1
      · rw [hk]; exact ⟨by omega, fun _ => by omega⟩
      · exact nearN_best v g k (by omega)
/-- The nearest loudness. -/
def nearest (v : Int) : Nat := nearN (clampI v 0 306720) 63

set_option maxHeartbeats 1000000 in
set_option maxRecDepth 100000 in
theorem nearest_calls (w : World) (v : Int) : Calls Try.prog 19 #[.int .i64 v] w fun r w' => r = .returned (.int .i64 (nearest v)) ∧ Chg w w' No := by
  have hl63 : loud 63 = 153360 := by
    have := loud_at 63 (by omega)
    rw [loudT_ok.2.2.2] at this
    exact this
  obtain ⟨c0, c1⟩ := clampI_range v 0 306720 (by decide)
  obtain ⟨u, hu⟩ : ∃ u : Int, u = clampI v 0 306720 := ⟨_, rfl⟩
  rw [← hu] at c0 c1
  have HU := Aside0.mk hu
  have HL := Aside0.mk hl63
  clear hu hl63
  go_enter Try.func19, Try.ntmps19
  go_wp2_with (first
    | (go_at_call 20; refine (loud_calls _ 63).mono ?_; rintro r w1 ⟨rfl, h1⟩; rw [HL.out]; have H1 := Aside0.mk h1; clear h1)
    | (go_at_call 65; refine (clamp_calls _ v 0 306720).mono ?_; rintro r w2 ⟨rfl, n2, rfl⟩; rw [← HU.out]))
  have H2 : Aside0 (Chg w (w1.drewN n2) No) := ⟨H1.out.drewN _⟩
  clear H1
  go_loopg [3, 4] 63 (fun k u3 u4 wr => ∃ i b : Nat, u4 = .int .i64 ((i : Int) + 1) ∧ u3 = .int .i64 (b : Int) ∧ k + i = 63 ∧ Aside0 (b = nearN u i) ∧ Aside0 (Chg w wr No))
  case atStart => exact ⟨0, 0, rfl, rfl, rfl, ⟨rfl⟩, H2⟩
  case round =>
    clear H2
    obtain ⟨i, b, rfl, rfl, hk, HB, HC⟩ := hrel
    have hbi : b ≤ i := by rw [HB.out]; exact nearN_le u i
    by_cases hi : i < 63
    · have l1 := loud_range ((i : Int) + 1)
      have l2 := loud_range (b : Int)
      have HN : Aside0 (nearN u (i + 1) = if dist (loud ((i : Int) + 1)) u < dist (loud b) u then i + 1 else b) := ⟨by rw [HB.out]; rfl⟩
      obtain ⟨x, hx⟩ : ∃ x : Int, x = loud ((i : Int) + 1) := ⟨_, rfl⟩
      obtain ⟨y, hy⟩ : ∃ y : Int, y = loud (b : Int) := ⟨_, rfl⟩
      have HX := Aside0.mk (And.intro hx hy)
      rw [← hx] at l1
      rw [← hy] at l2
      clear hx hy
      obtain ⟨l1a, l1b⟩ := l1
      obtain ⟨l2a, l2b⟩ := l2
      go_wp2_with fail
      refine (loud_calls _ _).mono ?_
      rintro r w3 ⟨rfl, h3⟩
      rw [← HX.out.1]
      go_wp2_with fail
      refine (far_calls _ x u (by omega) (by omega)).mono ?_
      rintro r w4 ⟨rfl, h4⟩
      go_wp2_with fail
      refine (loud_calls _ _).mono ?_
      rintro r w5 ⟨rfl, h5⟩
      rw [← HX.out.2]
      go_wp2_with fail
      refine (far_calls _ y u (by omega) (by omega)).mono ?_
      rintro r w6 ⟨rfl, h6⟩
      have HC6 : Aside0 (Chg w w6 No) := ⟨(((HC.out.trans h3 (Ext.refl _ _)).trans h4 (Ext.refl _ _)).trans h5 (Ext.refl _ _)).trans h6 (Ext.refl _ _)⟩
      clear h3 h4 h5 h6 HC
      by_cases ht : dist x u < dist y u
      · have HR : Aside0 (i + 1 = nearN u (i + 1)) := ⟨by rw [HN.out, ← HX.out.1, ← HX.out.2, if_pos ht]⟩
        go_wp2
        go_roundg (gk - 1)
        case measure => omega
        case rel => exact ⟨i + 1, i + 1, by go_num, by go_num, by omega, HR, HC6⟩
      · have HR : Aside0 (b = nearN u (i + 1)) := ⟨by rw [HN.out, ← HX.out.1, ← HX.out.2, if_neg ht]⟩
        go_wp2
        go_roundg (gk - 1)
        case measure => omega
        case rel => exact ⟨i + 1, b, by go_num, rfl, by omega, HR, HC6⟩
    · have HR : Aside0 (b = nearest v) := ⟨by rw [HB.out, nearest, ← HU.out, show i = 63 by omega]⟩
      go_wp2
      go_returns
      exact ⟨by rw [← HR.out]; rfl, HC.out⟩
end Go.Proofs.Ytiabenmgbikllaa.M

-- Tables of probabilities, and how a loudness is written. Conditions: bounds on the numbers.
namespace Go.Proofs.Ytiabenmgbikllaa.M
set_option linter.unusedVariables false
open Go.RowKit Go.Proofs.YtiabenmgbikllaaW.PrintWords Go.Proofs.YtiabenmgbikllaaW.PrintLast Go.Proofs.YtiabenmgbikllaaW.PrintMore Go.Proofs.Ytiabenmgbikllaa.PAll
attribute [local go_sem] max2_int min2_int max_two min_two max_three min_three max_four min_four

/-- A table, looked over by program. -/
def tabB (t : List Int) : Bool :=
  decide (t.length ≤ 256) && (List.range t.length).all (fun i => decide (0 ≤ t.getD i 0) && decide (t.getD i 0 ≤ 255)) && (List.range (t.length - 1)).all (fun i => decide (t.getD (i + 1) 0 < t.getD i 0)) && decide (t.getD (t.length - 1) 0 = 0)
theorem tabOk_of (t : List Int) (hg : tabs_Good.f 300 t = some true) (h : tabB t = true) : TabOk t := by
  unfold tabB at h
  simp only [Bool.and_eq_true, List.all_eq_true, List.mem_range, decide_eq_true_eq] at h
  obtain ⟨⟨⟨h1, h2⟩, h3⟩, h4⟩ := h
  exact ⟨hg, h1, fun i hi => h2 i hi, fun i hi => h3 i (by omega), h4⟩
def icdf : Nat → List Int
  | 0 => [192, 96, 0]
  | 1 => [224, 192, 160, 128, 96, 64, 32, 0]
  | 2 => [252, 247, 240, 230, 214, 190, 150, 106, 66, 42, 26, 16, 10, 6, 4, 2, 0]
  | 3 => [240, 224, 208, 192, 176, 160, 144, 128, 112, 96, 80, 64, 48, 32, 16, 0]
  | 4 => [253, 244, 222, 170, 86, 34, 12, 3, 0]
  | 5 => [218, 180, 148, 122, 100, 82, 67, 54, 43, 34, 26, 19, 14, 10, 6, 3, 0]
  | _ => [205, 163, 128, 97, 70, 44, 20, 0]
theorem icdf_ok : ∀ i : Nat, i < 7 → TabOk (icdf i)
  | 0, _ => tabOk_of _ (by decide +kernel) (by decide +kernel)
  | 1, _ => tabOk_of _ (by decide +kernel) (by decide +kernel)
  | 2, _ => tabOk_of _ (by decide +kernel) (by decide +kernel)
  | 3, _ => tabOk_of _ (by decide +kernel) (by decide +kernel)
  | 4, _ => tabOk_of _ (by decide +kernel) (by decide +kernel)
  | 5, _ => tabOk_of _ (by decide +kernel) (by decide +kernel)
  | 6, _ => tabOk_of _ (by decide +kernel) (by decide +kernel)
  | n + 7, h => absurd h (by omega)
theorem icdf_f : ∀ i : Nat, i < 7 → tabs_Icdf.f i = some (icdf i)
  | 0, _ => rfl
  | 1, _ => rfl
  | 2, _ => rfl
  | 3, _ => rfl
  | 4, _ => rfl
  | 5, _ => rfl
  | 6, _ => rfl
  | n + 7, h => absurd h (by omega)
theorem icdf_pos (i : Nat) : 0 < (icdf i).length := by
  unfold icdf
  split <;> decide
/-- A table as a call hands it back: a slice in new memory. -/
def TabAt (w w' : World) (t : List Int) (v : Value) : Prop := ∃ A c, v = .slice A t.length c ∧ ReadsInt w' .i64 A t.length t ∧ t.length ≤ c ∧ (∀ ad, A = some ad → w.heap.size ≤ ad.block) ∧ Chg w w' No
theorem icdf_calls (w : World) (i : Nat) (hi : i < 7) : Calls Try.prog 88 #[.int .i64 i] w fun r w' => ∃ v, r = .returned v ∧ TabAt w w' (icdf i) v :=
  (tabs_Icdf.calls i _ w (icdf_f i hi)).mono fun r w' ⟨v, h1, h2, h3⟩ => by
    have ho := Kd.own_of_R h2
    obtain ⟨A, c, rfl⟩ := own_slice ho
    refine ⟨_, h1, A, c, rfl, readsInt_of.2 (own_reads_of' ho), own_le ho, fun ad ha => ?_, Chg.of_below h3 No⟩
    subst ha
    exact own_base ho ad.block rfl

theorem TabAt.keep {w w' : World} {t : List Int} {v : Value} (h : TabAt w w' t v) : Chg w w' No := by
  obtain ⟨_, _, _, _, _, _, h⟩ := h
  exact h

/-- A symbol is written by a table that was made on the spot. -/
theorem esym_at (w w1 : World) (f : Nat → Prop) (g : Nat) (e : E) (i : Nat) (s : Int) (v : Value) (h : EncAt w f g e) (hk : EOk e) (hi : i < 7) (ht : TabAt w w1 (icdf i) v) (h0 : 0 ≤ s) (h1 : s < (icdf i).length) :
    Calls Try.prog 91 #[.pointer (some ⟨g, 0, none⟩), .int .i64 s, v] w1 fun r w' => r = .returned (.int .i64 0) ∧ ∃ f', EncAt w' f' g (e.symbol s (icdf i)) ∧ Chg w w' f ∧ Ext w f f' := by
  obtain ⟨A, c, rfl, hr, hc, _, hch⟩ := ht
  exact (esymbol_calls w1 f g e s (icdf i) A c (h.chg hch (fun _ _ hh => hh)) hk (icdf_ok i hi) hr hc h0 h1).mono
    fun r w' ⟨hr, f', hE, hC, hX⟩ => ⟨hr, f', hE, (hch.mono (fun _ hh => hh.elim)).trans hC (Ext.refl _ _), hX.le hch.size⟩

def E.first (e : E) (g : Int) : E := (e.symbol (g / 8) (icdf 1)).uint (g % 8) 8
set_option maxHeartbeats 1000000 in
set_option maxRecDepth 100000 in
theorem wfirst_calls (w : World) (f : Nat → Prop) (g : Nat) (e : E) (x : Int) (h : EncAt w f g e) (hk : EOk e) (hk1 : EOk (e.symbol (x / 8) (icdf 1))) (x0 : 0 ≤ x) (x1 : x ≤ 63) :
    Calls Try.prog 62 #[.pointer (some ⟨g, 0, none⟩), .int .i64 x] w fun r w' => r = .returned (.int .i64 0) ∧ ∃ f', EncAt w' f' g (e.first x) ∧ Chg w w' f ∧ Ext w f f' := by
  have HH := Aside0.mk (And.intro h (And.intro hk hk1))
  clear h hk hk1
  go_enter Try.func62, Try.ntmps62
  go_wp2_with (first
    | (go_at_call 88; refine (icdf_calls _ 1 (by omega)).mono ?_; rintro r w1 ⟨v1, rfl, h1⟩; have H1 := Aside0.mk h1; clear h1)
    | (go_at_call 91; refine (esym_at w w1 f g e 1 (x / 8) v1 HH.out.1 HH.out.2.1 (by omega) H1.out (by omega) (by show _ < (8 : Int); omega)).mono ?_; rintro r w2 ⟨rfl, f2, h2⟩; have H2 := Aside0.mk h2; clear h2)
    | (go_at_call 119; refine (euint_calls w2 f2 g _ (x % 8) 8 H2.out.1 HH.out.2.2 (by omega) (by omega) (by omega)).mono ?_; rintro r w3 ⟨rfl, f3, h3⟩; have H3 := Aside0.mk h3; clear h3))
  go_returns
  exact ⟨rfl, f3, H3.out.1, H2.out.2.1.trans H3.out.2.1 H2.out.2.2, H2.out.2.2.trans H2.out.2.1.size H3.out.2.2⟩
end Go.Proofs.Ytiabenmgbikllaa.M

-- The document's own tables, bounds and loudness come to the same. Conditions: none.
namespace Go.Proofs.Ytiabenmgbikllaa.M
set_option linter.unusedVariables false
open Go.RowKit Go.Proofs.YtiabenmgbikllaaW.PrintWords Go.Proofs.YtiabenmgbikllaaW.PrintLast Go.Proofs.YtiabenmgbikllaaW.PrintMore Go.Proofs.Ytiabenmgbikllaa.PAll
attribute [local go_sem] max2_int min2_int max_two min_two max_three min_three max_four min_four

theorem icdf3_f : ∀ i : Nat, i < 7 → madrigalref1_Icdf.f i = some (icdf i)
  | 0, _ => by decide +kernel
  | 1, _ => by decide +kernel
  | 2, _ => by decide +kernel
  | 3, _ => by decide +kernel
  | 4, _ => by decide +kernel
  | 5, _ => by decide +kernel
  | 6, _ => by decide +kernel
theorem icdf3_good : ∀ i : Nat, i < 7 → madrigalref1_Good.f 300 (icdf i) = some true
  | 0, _ => by decide +kernel
  | 1, _ => by decide +kernel
  | 2, _ => by decide +kernel
  | 3, _ => by decide +kernel
  | 4, _ => by decide +kernel
  | 5, _ => by decide +kernel
  | 6, _ => by decide +kernel
theorem clamp3_f (k : Nat) (a lo hi : Int) : madrigalref1_Clamp.f (k + 1) a lo hi = some (clampI a lo hi) := by
  unfold madrigalref1_Clamp.f clampI
  by_cases h1 : a < lo
  · rw [if_pos h1]
    by_cases h2 : lo > hi
    · rw [if_pos h2]; rfl
    · rw [if_neg h2, if_pos h1]; rfl
  · rw [if_neg h1]
    by_cases h2 : lo > hi
    · rw [if_pos h2, decide_eq_true h2]; rfl
    · rw [if_neg h2, if_neg h1, decide_eq_false h2]
      simp only [madrigalref1_Clamp.j0]
      rw [if_neg (by decide)]
      split <;> rfl
theorem loud3_tab : ∀ i : Fin 64, madrigalref1_Exp2.f 20 (70 * (i : Nat)) = some (loudT.getD i 0) := by
  rw [loudT_eq]; decide +kernel
theorem loud3_f (g : Int) : madrigalref6_Loud.f 20 g = some (loud g) := by
  obtain ⟨c0, c1⟩ := gcl_range g
  unfold madrigalref6_Loud.f
  rw [clamp3_f 19 g 0 63]
  simp only [Option.bind_some]
  show ((madrigalref1_Exp2.f 20 (wrap64 (70 * gcl g))).bind fun t => some t) = _
  obtain ⟨n, hn⟩ := Int.eq_ofNat_of_zero_le c0
  have hl : loud g = loudT.getD n 0 := by rw [← loud_gcl, hn]; exact loud_at n (by omega)
  rw [hl, hn, show wrap64 (70 * (n : Int)) = 70 * (n : Int) from by unfold wrap64; omega]
  have := loud3_tab ⟨n, by omega⟩
  simp only at this
  rw [this]
  rfl
theorem loud3_mono (k : Nat) (g : Int) (hk : 20 ≤ k) : madrigalref6_Loud.f k g = some (loud g) := by
  obtain ⟨m, rfl⟩ : ∃ m, k = 20 + m := ⟨k - 20, by omega⟩
  induction m with
  | zero => exact loud3_f g
  | succ m ih => exact madrigalref6_Loud.mono g (20 + m) _ (ih (by omega))
theorem u64_wrap (x : Int) : IntKind.u64.wrap x = x % 18446744073709551616 := rfl
/-- How far two numbers are apart. -/
def apart (v x : Int) : Int := if v ≥ x then v - x else x - v
theorem far3_f (v x : Int) (h0 : -9223372036854775808 ≤ v) (h1 : v ≤ 9223372036854775807) (x0 : 0 ≤ x) (x1 : x ≤ 1000000) : madrigalref6_far.f v x = some (apart v x) := by
  unfold madrigalref6_far.f apart
  by_cases hc : v ≥ x
  · rw [if_pos hc, if_pos hc, u64_wrap, u64_wrap, u64_wrap]
    congr 1
    omega
  · rw [if_neg hc, if_neg hc, u64_wrap, u64_wrap, u64_wrap]
    congr 1
    omega
theorem apart_dist (v x y : Int) (x0 : 1 ≤ x) (x1 : x ≤ 153360) (y0 : 1 ≤ y) (y1 : y ≤ 153360) : apart v x < apart v y ↔ dist x (clampI v 0 306720) < dist y (clampI v 0 306720) := by
  have hu : (v < 0 ∧ clampI v 0 306720 = 0) ∨ (v > 306720 ∧ clampI v 0 306720 = 306720) ∨ (0 ≤ v ∧ v ≤ 306720 ∧ clampI v 0 306720 = v) := by
    unfold clampI
    (repeat' split) <;> omega
  obtain ⟨u, hh⟩ : ∃ u, u = clampI v 0 306720 := ⟨_, rfl⟩
  rw [← hh] at hu ⊢
  unfold apart dist
  (repeat' split) <;> omega
theorem near3_l (v : Int) (h0 : -9223372036854775808 ≤ v) (h1 : v ≤ 9223372036854775807) : ∀ (m i k : Nat), i + m = 63 → m + 21 < k →
    madrigalref6_Nearest.l0 k v (nearN (clampI v 0 306720) i : Nat) ((i : Int) + 1) = some (nearest v : Int)
  | 0, i, k, hi, hk => by
    obtain ⟨k, rfl⟩ : ∃ m, k = m + 1 := ⟨k - 1, by omega⟩
    have : i = 63 := by omega
    subst this
    simp only [madrigalref6_Nearest.l0]
    rw [if_neg (by decide)]
    rfl
  | m + 1, i, k, hi, hk => by
    obtain ⟨k, rfl⟩ : ∃ m, k = m + 1 := ⟨k - 1, by omega⟩
    have l1 := loud_range ((i : Int) + 1)
    have l2 := loud_range (nearN (clampI v 0 306720) i : Nat)
    have ih := near3_l v h0 h1 m (i + 1) k (by omega) (by omega)
    simp only [madrigalref6_Nearest.l0]
    rw [if_pos (by omega), loud3_mono k _ (by omega), loud3_mono k _ (by omega)]
    simp only [Option.bind_some]
    rw [far3_f v _ h0 h1 (by omega) (by omega), far3_f v _ h0 h1 (by omega) (by omega)]
    simp only [Option.bind_some]
    have hc := apart_dist v _ _ l1.1 l1.2 l2.1 l2.2
    rw [show wrap64 ((i : Int) + 1 + 1) = ((i + 1 : Nat) : Int) + 1 from by unfold wrap64; omega]
    have hn : nearN (clampI v 0 306720) (i + 1) = if dist (loud (i + 1 : Nat)) (clampI v 0 306720) < dist (loud (nearN (clampI v 0 306720) i)) (clampI v 0 306720) then i + 1 else nearN (clampI v 0 306720) i := rfl
    rw [show (((i + 1 : Nat) : Int)) = (i : Int) + 1 from by omega] at hn
    by_cases hh : apart v (loud ((i : Int) + 1)) < apart v (loud (nearN (clampI v 0 306720) i : Nat))
    · rw [if_pos hh]
      rw [if_pos (hc.1 hh)] at hn
      rw [hn] at ih
      exact ih
    · rw [if_neg hh]
      rw [if_neg (fun h => hh (hc.2 h))] at hn
      rw [hn] at ih
      exact ih
theorem near3_f (v : Int) (h0 : -9223372036854775808 ≤ v) (h1 : v ≤ 9223372036854775807) : madrigalref6_Nearest.f 100 v = some (nearest v : Int) :=
  near3_l v h0 h1 63 0 100 (by omega) (by omega)
theorem lags3_f (r : Int) : madrigalref6_Lags.f r = gain_Lags.f r := rfl
theorem icdf3_calls (w : World) (i : Nat) (hi : i < 7) : Calls Try.prog 24 #[.int .i64 i] w fun r w' => ∃ v, r = .returned v ∧ TabAt w w' (icdf i) v :=
  (madrigalref1_Icdf.calls i _ w (icdf3_f i hi)).mono fun r w' ⟨v, h1, h2, h3⟩ => by
    have ho := Kd.own_of_R h2
    obtain ⟨A, c, rfl⟩ := own_slice ho
    refine ⟨_, h1, A, c, rfl, readsInt_of.2 (own_reads_of' ho), own_le ho, fun ad ha => ?_, Chg.of_below h3 No⟩
    subst ha
    exact own_base ho ad.block rfl
end Go.Proofs.Ytiabenmgbikllaa.M

-- Bits as they are: what a reader becomes, in numbers. Conditions: bounds on the numbers.
namespace Go.Proofs.Ytiabenmgbikllaa.M
set_option linter.unusedVariables false
open Go.RowKit Go.Proofs.YtiabenmgbikllaaW.PrintWords Go.Proofs.YtiabenmgbikllaaW.PrintLast Go.Proofs.YtiabenmgbikllaaW.PrintMore Go.Proofs.Ytiabenmgbikllaa.PAll
attribute [local go_sem] max2_int min2_int max_two min_two max_three min_three max_four min_four

def D.endV (d : D) : Int := if d.back ≥ d.b.length then 0 else rd d.b (d.b.length - (d.back + 1))
def D.endB (d : D) : Int := if d.back ≥ d.b.length then d.back else d.back + 1
/-- A byte more waits. -/
def D.fill (d : D) : D := { d with back := d.endB, window := d.endV * 2 ^ d.waiting.toNat + d.window, waiting := d.waiting + 8 }
def D.fillL : Nat → Int → D → D
  | 0, _, d => d
  | k + 1, n, d => if d.waiting < n then D.fillL k n d.fill else d
def D.bitsV (d : D) (n : Int) : Int := (D.fillL 3 n d).window % 2 ^ n.toNat
def D.bits (d : D) (n : Int) : D := { D.fillL 3 n d with window := (D.fillL 3 n d).window / 2 ^ n.toNat, waiting := (D.fillL 3 n d).waiting - n, count := (D.fillL 3 n d).count + n }
/-- What holds of the bits that wait. -/
structure DRaw (d : D) : Prop where
  w0 : 0 ≤ d.waiting
  w1 : d.waiting ≤ 31
  x0 : 0 ≤ d.window
  x1 : d.window < 2 ^ d.waiting.toNat
  b0 : 0 ≤ d.back
  b1 : d.back ≤ d.b.length
theorem D.endV_range (d : D) (hb : Bytes d.b) (h : DRaw d) : 0 ≤ d.endV ∧ d.endV < 256 ∧ 0 ≤ d.endB ∧ d.endB ≤ d.b.length := by
  have h0 := h.b0
  have h1 := h.b1
  unfold D.endV D.endB
  split
  · omega
  · have := hb.at_ (d.b.length - (d.back + 1)) (by omega) (by omega)
    omega
theorem fill_ok (d : D) (hb : Bytes d.b) (h : DRaw d) (hw : d.waiting ≤ 23) : DRaw d.fill := by
  obtain ⟨e0, e1, e2, e3⟩ := d.endV_range hb h
  obtain ⟨h1, h2, h3, h4, h5, h6⟩ := h
  refine ⟨by show 0 ≤ d.waiting + 8; omega, by show d.waiting + 8 ≤ 31; omega, ?_, ?_, e2, e3⟩
  · show 0 ≤ d.endV * 2 ^ d.waiting.toNat + d.window
    have : 0 ≤ d.endV * 2 ^ d.waiting.toNat := Int.mul_nonneg e0 (by exact_mod_cast Nat.zero_le _)
    omega
  · show d.endV * 2 ^ d.waiting.toNat + d.window < 2 ^ (d.waiting + 8).toNat
    rw [show (d.waiting + 8).toNat = d.waiting.toNat + 8 from by omega, Int.pow_add]
    have : (d.endV + 1) * 2 ^ d.waiting.toNat ≤ 256 * 2 ^ d.waiting.toNat := Int.mul_le_mul_of_nonneg_right (by omega) (by exact_mod_cast Nat.zero_le _)
    rw [Int.add_mul] at this
    omega
theorem fillL_ok (n : Int) (hn : n ≤ 24) : ∀ (k : Nat) (d : D), Bytes d.b → DRaw d → DRaw (D.fillL k n d) ∧ (D.fillL k n d).b = d.b ∧ (n ≤ d.waiting + 8 * k → n ≤ (D.fillL k n d).waiting) ∧ (D.fillL k n d).count = d.count ∧ (D.fillL k n d).rng = d.rng ∧ (D.fillL k n d).val = d.val ∧ (D.fillL k n d).last = d.last ∧ (D.fillL k n d).front = d.front
  | 0, d, hb, h => ⟨h, rfl, fun hh => by show n ≤ d.waiting; omega, rfl, rfl, rfl, rfl, rfl⟩
  | k + 1, d, hb, h => by
    unfold D.fillL
    split
    · rename_i hc
      obtain ⟨a1, a2, a3, a4⟩ := fillL_ok n hn k d.fill hb (fill_ok d hb h (by omega))
      refine ⟨a1, a2, fun hh => a3 (by show n ≤ d.waiting + 8 + 8 * (k : Int); omega), a4⟩
    · exact ⟨h, rfl, fun _ => by omega, rfl, rfl, rfl, rfl, rfl⟩
theorem bits_ok (d : D) (h : DOk d) (hr : DRaw d) (n : Int) (h0 : 0 ≤ n) (hn : n ≤ 24) (hc : d.count ≤ 900000000000000000) : DOk (d.bits n) ∧ DRaw (d.bits n) ∧ (d.bits n).count = d.count + n ∧ (d.bits n).b = d.b ∧ 0 ≤ d.bitsV n ∧ d.bitsV n < 2 ^ n.toNat := by
  obtain ⟨a1, a2, a3, a4, a5, a6, a7, a8⟩ := fillL_ok n hn 3 d h.bytes hr
  have a3' := a3 (by have := hr.w0; omega)
  have hp : (0 : Int) < 2 ^ n.toNat := by exact_mod_cast Nat.two_pow_pos _
  have ec : (d.bits n).count = d.count + n := by show (D.fillL 3 n d).count + n = _; rw [a4]
  have eb : (d.bits n).b = d.b := a2
  have k0 := h.k0
  refine ⟨⟨⟨by rw [eb]; exact h.bytes, by rw [eb]; exact h.len, by show 0 ≤ (D.fillL 3 n d).last; rw [a7]; exact h.l0, by show (D.fillL 3 n d).last < 256; rw [a7]; exact h.l1, by show 0 ≤ (D.fillL 3 n d).front; rw [a8]; exact h.f0, by rw [eb]; show (D.fillL 3 n d).front ≤ _; rw [a8]; exact h.f1, by omega, by omega⟩,
    by show _ < (D.fillL 3 n d).rng; rw [a5]; exact h.r1, by show (D.fillL 3 n d).rng ≤ _; rw [a5]; exact h.r2, by show 0 ≤ (D.fillL 3 n d).val; rw [a6]; exact h.v0, by show (D.fillL 3 n d).val < (D.fillL 3 n d).rng; rw [a5, a6]; exact h.v1, by omega, by omega⟩, ?_, ec, eb, Int.emod_nonneg _ (by omega), Int.emod_lt_of_pos _ hp⟩
  have hw1 := a1.w1
  refine ⟨by show 0 ≤ (D.fillL 3 n d).waiting - n; omega, by show (D.fillL 3 n d).waiting - n ≤ 31; omega, Int.ediv_nonneg a1.x0 (by omega), ?_, a1.b0, by rw [eb, ← a2]; exact a1.b1⟩
  show (D.fillL 3 n d).window / 2 ^ n.toNat < 2 ^ ((D.fillL 3 n d).waiting - n).toNat
  have hx := a1.x1
  rw [show (D.fillL 3 n d).waiting.toNat = ((D.fillL 3 n d).waiting - n).toNat + n.toNat from by omega, Int.pow_add] at hx
  exact Int.ediv_lt_of_lt_mul hp hx
end Go.Proofs.Ytiabenmgbikllaa.M

-- Bits as they are, read by the program. Conditions: bounds on the numbers.
namespace Go.Proofs.Ytiabenmgbikllaa.M
set_option linter.unusedVariables false
open Go.RowKit Go.Proofs.YtiabenmgbikllaaW.PrintWords Go.Proofs.YtiabenmgbikllaaW.PrintLast Go.Proofs.YtiabenmgbikllaaW.PrintMore Go.Proofs.Ytiabenmgbikllaa.PAll
attribute [local go_sem] max2_int min2_int max_two min_two max_three min_three max_four min_four

theorem end_f (d : D) (h : DBase d) (hr : DRaw d) :
    rc_Dec_end.f d.b d.rng d.val d.last d.front d.back d.window d.waiting d.count d.bad = some (d.endV, d.rng, d.val, d.last, d.front, d.endB, d.window, d.waiting, d.count, d.bad) := by
  have hf := hr.b0
  have hf1 := hr.b1
  have hl := h.len
  unfold rc_Dec_end.f D.endV D.endB
  by_cases hc : d.back ≥ d.b.length
  · rw [if_pos hc, if_pos hc, if_pos hc]
  · rw [if_neg hc, if_neg hc, if_neg hc]
    rw [show wrap64 (d.back + 1) = d.back + 1 from by unfold wrap64; omega, show wrap64 ((d.b.length : Int) - (d.back + 1)) = (d.b.length : Int) - (d.back + 1) from by unfold wrap64; omega, if_pos (by omega), if_pos (by omega)]
    have hb := h.bytes.at_ ((d.b.length : Int) - (d.back + 1)) (by omega) (by omega)
    rw [wraps_u64 _ hb.1 (by omega)]
theorem or_fill (x y : Int) (i : Nat) (hi : i ≤ 23) (hx0 : 0 ≤ x) (hx : x < 2 ^ i) (hy0 : 0 ≤ y) (hy : y < 256) : bits .or .u64 x (IntKind.u64.wrap (y * 2 ^ i)) = y * 2 ^ i + x := by
  have h23 : (2 : Int) ^ i ≤ 2 ^ 23 := by exact_mod_cast Nat.pow_le_pow_right (by decide) hi
  have hp : (0 : Int) < 2 ^ i := by exact_mod_cast Nat.two_pow_pos i
  have h1 : 0 ≤ y * 2 ^ i := Int.mul_nonneg hy0 (by omega)
  have h2 : y * 2 ^ i ≤ 255 * 2 ^ 23 := Int.le_trans (Int.mul_le_mul_of_nonneg_right (show y ≤ 255 by omega) (by omega)) (Int.mul_le_mul_of_nonneg_left h23 (by omega))
  rw [wraps_u64 _ h1 (by omega)]
  have hj := bits_join .u64 63 (by decide) wraps_u64 i (y * 2 ^ i) x h1 (Int.mul_emod_left _ _) (by omega) hx0 hx (by omega)
  rw [← hj]
  obtain ⟨a, ha⟩ := Int.eq_ofNat_of_zero_le hx0
  obtain ⟨b, hb⟩ := Int.eq_ofNat_of_zero_le h1
  rw [hb, ha, (bits_nat .u64 63 (by decide) wraps_u64 a b (by omega) (by omega)).2, (bits_nat .u64 63 (by decide) wraps_u64 b a (by omega) (by omega)).2, Nat.or_comm]
theorem dend_calls (w0 w : World) (g : Nat) (d : D) (h : DecAt w0 w g d) (hd : DBase d) (hr : DRaw d) :
    Calls Try.prog 127 #[.pointer (some ⟨g, 0, none⟩)] w fun r w' => r = .returned (.int .u64 d.endV) ∧ DecAt w0 w' g { d with back := d.endB } ∧ Chg w w' (One g) :=
  (rc_Dec_end.calls g d.b d.rng d.val d.last d.front d.back d.window d.waiting d.count d.bad _ _ _ _ _ _ _ _ _ _ w0 w h.1 h.2 (end_f d hd hr)).mono
    fun r w' ⟨h1, h2, h3, h4⟩ => ⟨h1, (h.of { d with back := d.endB } rfl h2 h3 h4).1, (h.of { d with back := d.endB } rfl h2 h3 h4).2⟩
/-- The cells of a reader. -/
theorem DecAt.cells {w0 w : World} {g : Nat} {d : D} (h : DecAt w0 w g d) : w.cell? ⟨g, 6, none⟩ = some (.int .u64 d.window) ∧ w.cell? ⟨g, 7, none⟩ = some (.int .i64 d.waiting) ∧ w.cell? ⟨g, 8, none⟩ = some (.int .i64 d.count) ∧ w.frozen? ⟨g, 6, none⟩ = false ∧ w.frozen? ⟨g, 7, none⟩ = false ∧ w.frozen? ⟨g, 8, none⟩ = false := by
  obtain ⟨⟨A, c, hb, _, _⟩, _⟩ := h
  exact ⟨cellS91_6 hb, cellS91_7 hb, cellS91_8 hb, blk_frozen hb 6, blk_frozen hb 7, blk_frozen hb 8⟩
set_option maxHeartbeats 2000000 in
set_option maxRecDepth 100000 in
theorem dbits_calls (w0 w : World) (g : Nat) (d : D) (n : Int) (h : DecAt w0 w g d) (hd : DOk d) (hr : DRaw d) (h0 : 0 ≤ n) (hn : n ≤ 24) (hc : d.count ≤ 900000000000000000) :
    Calls Try.prog 89 #[.pointer (some ⟨g, 0, none⟩), .int .i64 n] w fun r w' => r = .returned (.int .i64 (d.bitsV n)) ∧ DecAt w0 w' g (d.bits n) ∧ Chg w w' (One g) := by
  have HH := Aside0.mk (And.intro h (And.intro hd hr))
  clear h hd hr
  have b1 : decide (n < 0) = false := decide_eq_false (by omega)
  have b2 : decide (24 < n) = false := decide_eq_false (by omega)
  go_enter Try.func89, Try.ntmps89
  go_wp2_with fail
  go_loopg [] 3 (fun k wr => ∃ d', Aside0 (D.fillL k n d' = D.fillL 3 n d ∧ DecAt w0 wr g d' ∧ DRaw d' ∧ DBase d' ∧ d'.b = d.b ∧ Chg w wr (One g)) ∧ n ≤ d'.waiting + 8 * k ∧ 0 ≤ d'.waiting ∧ d'.waiting ≤ 31)
  case atStart => exact ⟨d, ⟨rfl, HH.out.1, HH.out.2.2, HH.out.2.1.toDBase, rfl, Chg.refl _ _⟩, by have := HH.out.2.2.w0; omega, HH.out.2.2.w0, HH.out.2.2.w1⟩
  case round =>
    obtain ⟨d', HD, k1, k2, k3⟩ := hrel
    obtain ⟨c6, c7, c8, z6, z7, z8⟩ := HD.out.2.1.cells
    by_cases hlt : d'.waiting < n
    · obtain ⟨e0, e1, e2, e3⟩ := d'.endV_range HD.out.2.2.2.1.bytes HD.out.2.2.1
      have hor := or_fill d'.window d'.endV d'.waiting.toNat (by omega) HD.out.2.2.1.x0 HD.out.2.2.1.x1 e0 e1
      have HO := Aside0.mk hor
      clear hor
      go_wp2_with fail
      go_region_with (first
        | (go_at_call 127
           refine (dend_calls w0 _ g d' (HD.out.2.1.chg (S := No) (by repeat (first | exact Chg.refl _ No | apply Chg.drew | apply Chg.drewN)) (fun h => h) (fun _ h => False.elim h)) HD.out.2.2.2.1 HD.out.2.2.1).mono ?_
           rintro r w2 ⟨rfl, h1, h2⟩
           have p6 : w2.cell? ⟨g, 6, none⟩ = some (.int .u64 d'.window) := h1.cells.1
           have p7 : w2.cell? ⟨g, 7, none⟩ = some (.int .i64 d'.waiting) := h1.cells.2.1
           have y6 : w2.frozen? ⟨g, 6, none⟩ = false := h1.cells.2.2.2.1
           have y7 : w2.frozen? ⟨g, 7, none⟩ = false := h1.cells.2.2.2.2.1
           have H2 : Aside0 (DecAt w0 w2 g { d' with back := d'.endB } ∧ Chg wr w2 (One g)) := ⟨h1, Chg.trans (S := One g) (by repeat (first | exact Chg.refl _ (One g) | apply Chg.drew | apply Chg.drewN)) h2 (Ext.refl _ _)⟩
           clear h1 h2))
      all_goals
        have HS : Aside0 (DecAt w0 ((w2.setCell ⟨g, 6, none⟩ (.int .u64 (d'.endV * 2 ^ d'.waiting.toNat + d'.window))).setCell ⟨g, 7, none⟩ (.int .i64 (d'.waiting + 8))) g d'.fill ∧ Chg w ((w2.setCell ⟨g, 6, none⟩ (.int .u64 (d'.endV * 2 ^ d'.waiting.toNat + d'.window))).setCell ⟨g, 7, none⟩ (.int .i64 (d'.waiting + 8))) (One g)) := by
          obtain ⟨⟨q1, q2⟩, q3⟩ := H2.out
          refine ⟨⟨(q1.set_6 _).set_7 _, (q2.setCell (p := ⟨g, 6, none⟩) q1.ge _).setCell (p := ⟨g, 7, none⟩) q1.ge _⟩, ?_⟩
          exact ((HD.out.2.2.2.2.2.trans q3 (Ext.refl _ _)).setCell (p := ⟨g, 6, none⟩) (.inl rfl) _).setCell (p := ⟨g, 7, none⟩) (.inl rfl) _
        rw [HO.out]
        go_wp2_with fail
        go_roundg (gk - 1)
        case measure => omega
        case rel =>
          refine ⟨d'.fill, ⟨?_, HS.out.1, fill_ok d' HD.out.2.2.2.1.bytes HD.out.2.2.1 (by omega), ?_, HD.out.2.2.2.2.1, HS.out.2⟩, ?_, ?_, ?_⟩
          · rw [← HD.out.1]
            obtain ⟨m, rfl⟩ : ∃ m, gk = m + 1 := ⟨gk - 1, by omega⟩
            show D.fillL m n d'.fill = (if d'.waiting < n then _ else _)
            rw [if_pos hlt]
          · obtain ⟨q1, q2, q3, q4, q5, q6, q7, q8⟩ := HD.out.2.2.2.1
            exact ⟨q1, q2, q3, q4, q5, q6, q7, q8⟩
          · show n ≤ d'.waiting + 8 + 8 * ((gk - 1 : Nat) : Int); omega
          · show 0 ≤ d'.waiting + 8; omega
          · show d'.waiting + 8 ≤ 31; omega
    · have he : Aside0 (D.fillL 3 n d = d') := ⟨by
        rw [← HD.out.1]
        cases gk with
        | zero => rfl
        | succ m => show (if d'.waiting < n then _ else _) = _; rw [if_neg hlt]⟩
      have hp1 : (1 : Int) ≤ 2 ^ n.toNat := by exact_mod_cast Nat.one_le_two_pow
      have hp2 : (2 : Int) ^ n.toNat ≤ 2 ^ 24 := by exact_mod_cast Nat.pow_le_pow_right (by decide) (show n.toNat ≤ 24 by omega)
      have x0 := HD.out.2.2.1.x0
      have x1 : d'.window < 2 ^ 31 := Int.lt_of_lt_of_le HD.out.2.2.1.x1 (by exact_mod_cast Nat.pow_le_pow_right (by decide) (show d'.waiting.toNat ≤ 31 by omega))
      have m1 : IntKind.u64.wrap (1 * 2 ^ n.toNat) = 2 ^ n.toNat := by rw [Int.one_mul]; exact wraps_u64 _ (by omega) (by omega)
      have m2 : IntKind.u64.wrap (2 ^ n.toNat - 1) = 2 ^ n.toNat - 1 := wraps_u64 _ (by omega) (by omega)
      have m3 : bits .and .u64 d'.window (2 ^ n.toNat - 1) = d'.window % 2 ^ n.toNat := bits_mask .u64 63 (by decide) wraps_u64 n.toNat (by omega) _ x0 (by omega)
      have m4 : 0 ≤ d'.window % 2 ^ n.toNat := Int.emod_nonneg _ (by omega)
      have m5 : d'.window % 2 ^ n.toNat < 2 ^ n.toNat := Int.emod_lt_of_pos _ (by omega)
      have m6 : 0 ≤ d'.window / 2 ^ n.toNat := Int.ediv_nonneg x0 (by omega)
      have m7 : d'.window / 2 ^ n.toNat ≤ d'.window := Int.ediv_le_self _ x0
      have e1 := HD.out.2.2.2.1.c0
      have hcnt : d'.count = d.count := by rw [← he.out]; exact (fillL_ok n hn 3 d HH.out.2.1.bytes HH.out.2.2).2.2.2.1
      have hk0 := HH.out.2.1.k0
      go_wp2_with fail
      go_region
      go_wp2_with fail
      try go_region
      go_returns
      have hb : d.bits n = { d' with window := d'.window / 2 ^ n.toNat, waiting := d'.waiting - n, count := d.count + n } := by unfold D.bits; rw [he.out, hcnt]
      have hv : d.bitsV n = d'.window % 2 ^ n.toNat := by unfold D.bitsV; rw [he.out]
      obtain ⟨q1, q2⟩ := HD.out.2.1
      refine ⟨by rw [hv]; rfl, ?_, ?_⟩
      · rw [hb]
        refine ⟨(((q1.set_6 _).set_7 _).set_8 _).drew, ?_⟩
        exact (((q2.setCell (p := ⟨g, 6, none⟩) q1.ge _).setCell (p := ⟨g, 7, none⟩) q1.ge _).setCell (p := ⟨g, 8, none⟩) q1.ge _).drew
      · exact (((HD.out.2.2.2.2.2.setCell (p := ⟨g, 6, none⟩) (.inl rfl) _).setCell (p := ⟨g, 7, none⟩) (.inl rfl) _).setCell (p := ⟨g, 8, none⟩) (.inl rfl) _).drew
end Go.Proofs.Ytiabenmgbikllaa.M

-- Bits as they are, read by the document's own reader. Conditions: bounds on the numbers.
namespace Go.Proofs.Ytiabenmgbikllaa.M
set_option linter.unusedVariables false
open Go.RowKit Go.Proofs.YtiabenmgbikllaaW.PrintWords Go.Proofs.YtiabenmgbikllaaW.PrintLast Go.Proofs.YtiabenmgbikllaaW.PrintMore Go.Proofs.Ytiabenmgbikllaa.PAll
attribute [local go_sem] max2_int min2_int max_two min_two max_three min_three max_four min_four

set_option maxHeartbeats 2000000 in
set_option maxRecDepth 100000 in
theorem rbits_calls (w0 w : World) (g : Nat) (d : D) (n : Int) (h : RefAt w0 w g d) (hd : DOk d) (hr : DRaw d) (h0 : 0 ≤ n) (hn : n ≤ 24) (hc : d.count ≤ 900000000000000000) :
    Calls Try.prog 78 #[.pointer (some ⟨g, 0, none⟩), .int .i64 n] w fun r w' => r = .returned (.int .i64 (d.bitsV n)) ∧ RefAt w0 w' g (d.bits n) ∧ Chg w w' (One g) := by
  obtain ⟨e, h⟩ := h
  have HH := Aside0.mk (And.intro h (And.intro hd hr))
  clear h hd hr
  have b1 : decide (n < 0) = false := decide_eq_false (by omega)
  have b2 : decide (24 < n) = false := decide_eq_false (by omega)
  go_enter Try.func78, Try.ntmps78
  go_wp2_with fail
  go_loopg [] 3 (fun k wr => ∃ d', Aside0 (D.fillL k n d' = D.fillL 3 n d ∧ RefE w0 wr g d' e ∧ DRaw d' ∧ DBase d' ∧ d'.b = d.b ∧ Chg w wr (One g)) ∧ n ≤ d'.waiting + 8 * k ∧ 0 ≤ d'.waiting ∧ d'.waiting ≤ 31)
  case atStart => exact ⟨d, ⟨rfl, HH.out.1, HH.out.2.2, HH.out.2.1.toDBase, rfl, Chg.refl _ _⟩, by have := HH.out.2.2.w0; omega, HH.out.2.2.w0, HH.out.2.2.w1⟩
  case round =>
    obtain ⟨d', HD, k1, k2, k3⟩ := hrel
    obtain ⟨A, c, hb, hge, hrd⟩ := HD.out.2.1.1
    have c0 := cellS95_0 hb
    have c5 := cellS95_5 hb
    have c6 := cellS95_6 hb
    have c7 := cellS95_7 hb
    have c8 := cellS95_8 hb
    have z5 := blk_frozen hb 5
    have z6 := blk_frozen hb 6
    have z7 := blk_frozen hb 7
    have z8 := blk_frozen hb 8
    by_cases hlt : d'.waiting < n
    · obtain ⟨e0, e1, e2, e3⟩ := d'.endV_range HD.out.2.2.2.1.bytes HD.out.2.2.1
      have hor := or_fill d'.window d'.endV d'.waiting.toNat (by omega) HD.out.2.2.1.x0 HD.out.2.2.1.x1 e0 e1
      have hwu : IntKind.u64.wrap d'.waiting = d'.waiting := wraps_u64 _ k2 (by omega)
      have hl := HD.out.2.2.2.1.len
      have q0 := HD.out.2.2.1.b0
      by_cases hbk : d'.back < d'.b.length
      · have q1 : decide (d'.back < (d'.b.length : Int)) = true := decide_eq_true hbk
        have hV : Aside0 (d'.endV = rd d'.b (d'.b.length - (d'.back + 1)) ∧ d'.endB = d'.back + 1) := ⟨by unfold D.endV D.endB; rw [if_neg (by omega), if_neg (by omega)]; exact ⟨rfl, rfl⟩⟩
        have HO := Aside0.mk hor
        clear hor
        go_wp2_with fail
        go_region
        go_wp2_with fail
        obtain ⟨ad, rfl, hx⟩ := Kd.at_int hrd ((d'.b.length : Int) - (d'.back + 1)) (by omega) (by omega)
        have hbt := HD.out.2.2.2.1.bytes.at_ ((d'.b.length : Int) - (d'.back + 1)) (by omega) (by omega)
        have hx1 : ((wr.setCell ⟨g, 5, none⟩ (.int .i64 (d'.back + 1))).drew).cell? (ad.add ((d'.b.length : Int) - (d'.back + 1)).toNat) = some (.int .u8 (rd d'.b ((d'.b.length : Int) - (d'.back + 1)))) :=
          pw_cell_below ((HD.out.2.1.2.setCell (p := ⟨g, 5, none⟩) hge _).drew) hx
        have HB5 : Aside0 (RefE w0 ((wr.setCell ⟨g, 5, none⟩ (.int .i64 (d'.back + 1))).drew) g { d' with back := d'.back + 1 } e ∧ Chg w ((wr.setCell ⟨g, 5, none⟩ (.int .i64 (d'.back + 1))).drew) (One g)) :=
          ⟨⟨(HD.out.2.1.1.set_5 _).drew, (HD.out.2.1.2.setCell (p := ⟨g, 5, none⟩) hge _).drew⟩, (HD.out.2.2.2.2.2.setCell (p := ⟨g, 5, none⟩) (.inl rfl) _).drew⟩
        have hb5 : ((wr.setCell ⟨g, 5, none⟩ (.int .i64 (d'.back + 1))).drew).heap[g]? = some (.cells #[.slice (some ad) d'.b.length c, .int .u64 d'.rng, .int .u64 d'.val, .int .i64 d'.last, .int .i64 d'.front, .int .i64 (d'.back + 1), .int .u64 d'.window, .int .i64 d'.waiting, .int .i64 d'.count, .bool d'.bad, .int .u64 e] 95 (0, 0)) := by
          have := blk_set hb 5 (.int .i64 (d'.back + 1))
          simp only [List.setIfInBounds_toArray, List.set_cons_succ, List.set_cons_zero] at this
          exact this
        clear c0 c5 c6 c7 c8 z5 z6 z7 z8
        generalize (wr.setCell ⟨g, 5, none⟩ (.int .i64 (d'.back + 1))).drew = W at *
        have c0 := cellS95_0 hb5
        have c5 := cellS95_5 hb5
        have c6 := cellS95_6 hb5
        have c7 := cellS95_7 hb5
        have z6 := blk_frozen hb5 6
        have z7 := blk_frozen hb5 7
        have uV : IntKind.u64.wrap (rd d'.b ((d'.b.length : Int) - (d'.back + 1))) = d'.endV := by rw [hV.out.1]; exact wraps_u64 _ hbt.1 (by omega)
        clear hb5
        go_region
        go_wp2_with fail
        have hor := HO.out
        have HS : Aside0 (RefE w0 ((W.drew.drew.setCell ⟨g, 6, none⟩ (.int .u64 (d'.endV * 2 ^ d'.waiting.toNat + d'.window))).setCell ⟨g, 7, none⟩ (.int .i64 (d'.waiting + 8))) g d'.fill e ∧ Chg w ((W.drew.drew.setCell ⟨g, 6, none⟩ (.int .u64 (d'.endV * 2 ^ d'.waiting.toNat + d'.window))).setCell ⟨g, 7, none⟩ (.int .i64 (d'.waiting + 8))) (One g)) := by
          obtain ⟨⟨q1, q2⟩, q3⟩ := HB5.out
          refine ⟨⟨?_, (q2.drew.drew.setCell (p := ⟨g, 6, none⟩) q1.ge _).setCell (p := ⟨g, 7, none⟩) q1.ge _⟩, ?_⟩
          · have := (q1.drew.drew.set_6 (d'.endV * 2 ^ d'.waiting.toNat + d'.window)).set_7 (d'.waiting + 8)
            have e5 : d'.fill.back = d'.back + 1 := hV.out.2
            rw [e5]
            exact this
          · exact (q3.drew.drew.setCell (p := ⟨g, 6, none⟩) (.inl rfl) _).setCell (p := ⟨g, 7, none⟩) (.inl rfl) _
        go_region
        go_wp2_with fail
        go_roundg (gk - 1)
        case measure => omega
        case rel =>
          refine ⟨d'.fill, ⟨?_, HS.out.1, fill_ok d' HD.out.2.2.2.1.bytes HD.out.2.2.1 (by omega), ?_, HD.out.2.2.2.2.1, HS.out.2⟩, ?_, ?_, ?_⟩
          · rw [← HD.out.1]
            obtain ⟨m, rfl⟩ : ∃ m, gk = m + 1 := ⟨gk - 1, by omega⟩
            show D.fillL m n d'.fill = (if d'.waiting < n then _ else _)
            rw [if_pos hlt]
          · obtain ⟨q1, q2, q3, q4, q5, q6, q7, q8⟩ := HD.out.2.2.2.1
            exact ⟨q1, q2, q3, q4, q5, q6, q7, q8⟩
          · show n ≤ d'.waiting + 8 + 8 * ((gk - 1 : Nat) : Int); omega
          · show 0 ≤ d'.waiting + 8; omega
          · show d'.waiting + 8 ≤ 31; omega
      · have q1 : decide (d'.back < (d'.b.length : Int)) = false := decide_eq_false hbk
        have hV : Aside0 (d'.endV = 0 ∧ d'.endB = d'.back) := ⟨by unfold D.endV D.endB; rw [if_pos (by omega), if_pos (by omega)]; exact ⟨rfl, rfl⟩⟩
        have HO := Aside0.mk hor
        clear hor
        go_wp2_with fail
        go_region
        go_wp2_with fail
        have hor' : bits .or .u64 d'.window 0 = d'.endV * 2 ^ d'.waiting.toNat + d'.window := by
          have := HO.out
          rw [hV.out.1, show IntKind.u64.wrap (0 * 2 ^ d'.waiting.toNat) = 0 from by rw [Int.zero_mul]; rfl] at this
          rw [hV.out.1]
          exact this
        go_wp2_with fail
        have HS : Aside0 (RefE w0 ((wr.drew.drew.setCell ⟨g, 6, none⟩ (.int .u64 (d'.endV * 2 ^ d'.waiting.toNat + d'.window))).setCell ⟨g, 7, none⟩ (.int .i64 (d'.waiting + 8))) g d'.fill e ∧ Chg w ((wr.drew.drew.setCell ⟨g, 6, none⟩ (.int .u64 (d'.endV * 2 ^ d'.waiting.toNat + d'.window))).setCell ⟨g, 7, none⟩ (.int .i64 (d'.waiting + 8))) (One g)) := by
          obtain ⟨q1, q2⟩ := HD.out.2.1
          refine ⟨⟨?_, (q2.drew.drew.setCell (p := ⟨g, 6, none⟩) hge _).setCell (p := ⟨g, 7, none⟩) hge _⟩, ?_⟩
          · have := (q1.drew.drew.set_6 (d'.endV * 2 ^ d'.waiting.toNat + d'.window)).set_7 (d'.waiting + 8)
            have e5 : d'.fill.back = d'.back := hV.out.2
            rw [e5]
            exact this
          · exact (HD.out.2.2.2.2.2.drew.drew.setCell (p := ⟨g, 6, none⟩) (.inl rfl) _).setCell (p := ⟨g, 7, none⟩) (.inl rfl) _
        go_region
        go_wp2_with fail
        go_roundg (gk - 1)
        case measure => omega
        case rel =>
          refine ⟨d'.fill, ⟨?_, HS.out.1, fill_ok d' HD.out.2.2.2.1.bytes HD.out.2.2.1 (by omega), ?_, HD.out.2.2.2.2.1, HS.out.2⟩, ?_, ?_, ?_⟩
          · rw [← HD.out.1]
            obtain ⟨m, rfl⟩ : ∃ m, gk = m + 1 := ⟨gk - 1, by omega⟩
            show D.fillL m n d'.fill = (if d'.waiting < n then _ else _)
            rw [if_pos hlt]
          · obtain ⟨q1, q2, q3, q4, q5, q6, q7, q8⟩ := HD.out.2.2.2.1
            exact ⟨q1, q2, q3, q4, q5, q6, q7, q8⟩
          · show n ≤ d'.waiting + 8 + 8 * ((gk - 1 : Nat) : Int); omega
          · show 0 ≤ d'.waiting + 8; omega
          · show d'.waiting + 8 ≤ 31; omega
    · have he : Aside0 (D.fillL 3 n d = d') := ⟨by
        rw [← HD.out.1]
        cases gk with
        | zero => rfl
        | succ m => show (if d'.waiting < n then _ else _) = _; rw [if_neg hlt]⟩
      have hp1 : (1 : Int) ≤ 2 ^ n.toNat := by exact_mod_cast Nat.one_le_two_pow
      have hp2 : (2 : Int) ^ n.toNat ≤ 2 ^ 24 := by exact_mod_cast Nat.pow_le_pow_right (by decide) (show n.toNat ≤ 24 by omega)
      have x0 := HD.out.2.2.1.x0
      have x1 : d'.window < 2 ^ 31 := Int.lt_of_lt_of_le HD.out.2.2.1.x1 (by exact_mod_cast Nat.pow_le_pow_right (by decide) (show d'.waiting.toNat ≤ 31 by omega))
      have m1 : IntKind.u64.wrap (1 * 2 ^ n.toNat) = 2 ^ n.toNat := by rw [Int.one_mul]; exact wraps_u64 _ (by omega) (by omega)
      have m2 : IntKind.u64.wrap (2 ^ n.toNat - 1) = 2 ^ n.toNat - 1 := wraps_u64 _ (by omega) (by omega)
      have m3 : bits .and .u64 d'.window (2 ^ n.toNat - 1) = d'.window % 2 ^ n.toNat := bits_mask .u64 63 (by decide) wraps_u64 n.toNat (by omega) _ x0 (by omega)
      have m4 : 0 ≤ d'.window % 2 ^ n.toNat := Int.emod_nonneg _ (by omega)
      have m5 : d'.window % 2 ^ n.toNat < 2 ^ n.toNat := Int.emod_lt_of_pos _ (by omega)
      have m6 : 0 ≤ d'.window / 2 ^ n.toNat := Int.ediv_nonneg x0 (by omega)
      have m7 : d'.window / 2 ^ n.toNat ≤ d'.window := Int.ediv_le_self _ x0
      have e1 := HD.out.2.2.2.1.c0
      have hcnt : d'.count = d.count := by rw [← he.out]; exact (fillL_ok n hn 3 d HH.out.2.1.bytes HH.out.2.2).2.2.2.1
      have hk0 := HH.out.2.1.k0
      have hwn : IntKind.u64.wrap n = n := wraps_u64 _ h0 (by omega)
      go_wp2_with fail
      try go_region
      try go_wp2_with fail
      try go_region
      go_returns
      have hb : d.bits n = { d' with window := d'.window / 2 ^ n.toNat, waiting := d'.waiting - n, count := d.count + n } := by unfold D.bits; rw [he.out, hcnt]
      have hv : d.bitsV n = d'.window % 2 ^ n.toNat := by unfold D.bitsV; rw [he.out]
      obtain ⟨q1, q2⟩ := HD.out.2.1
      refine ⟨by rw [hv]; rfl, ?_, ?_⟩
      · rw [hb]
        refine ⟨e, ((q1.set_6 _).set_7 _).set_8 _, ?_⟩
        exact ((q2.setCell (p := ⟨g, 6, none⟩) q1.ge _).setCell (p := ⟨g, 7, none⟩) q1.ge _).setCell (p := ⟨g, 8, none⟩) q1.ge _
      · exact ((HD.out.2.2.2.2.2.setCell (p := ⟨g, 6, none⟩) (.inl rfl) _).setCell (p := ⟨g, 7, none⟩) (.inl rfl) _).setCell (p := ⟨g, 8, none⟩) (.inl rfl) _
end Go.Proofs.Ytiabenmgbikllaa.M

-- How a loudness' change, and what repeats, are written. Conditions: bounds on the numbers.
namespace Go.Proofs.Ytiabenmgbikllaa.M
set_option linter.unusedVariables false
open Go.RowKit Go.Proofs.YtiabenmgbikllaaW.PrintWords Go.Proofs.YtiabenmgbikllaaW.PrintLast Go.Proofs.YtiabenmgbikllaaW.PrintMore Go.Proofs.Ytiabenmgbikllaa.PAll
attribute [local go_sem] max2_int min2_int max_two min_two max_three min_three max_four min_four

def nextS (g was : Int) : Int := mn (mx (gcl g - gcl was + 8) 0) 16
theorem nextS_range (g was : Int) : 0 ≤ nextS g was ∧ nextS g was ≤ 16 := by
  unfold nextS mn mx
  split <;> split <;> omega
def E.next (e : E) (g was : Int) : E := e.symbol (nextS g was) (icdf 2)
set_option maxHeartbeats 1000000 in
set_option maxRecDepth 100000 in
theorem wnext_calls (w : World) (f : Nat → Prop) (g : Nat) (e : E) (x was : Int) (h : EncAt w f g e) (hk : EOk e) :
    Calls Try.prog 63 #[.pointer (some ⟨g, 0, none⟩), .int .i64 x, .int .i64 was] w fun r w' => r = .returned (.tuple #[.int .i64 (gcl (gcl was + nextS x was - 8)), .int .i64 0]) ∧ ∃ f', EncAt w' f' g (e.next x was) ∧ Chg w w' f ∧ Ext w f f' := by
  have HH := Aside0.mk (And.intro h hk)
  obtain ⟨x0, x1⟩ := gcl_range x
  obtain ⟨y0, y1⟩ := gcl_range was
  have hdef : nextS x was = mn (mx (gcl x - gcl was + 8) 0) 16 := rfl
  clear h hk
  by_cases hA : gcl x - gcl was + 8 < 0
  · have HS : Aside0 (nextS x was = 0) := ⟨by rw [hdef]; unfold mn mx; rw [if_pos hA]; rfl⟩
    clear hdef
    go_enter Try.func63, Try.ntmps63
    go_wp2_with fail
    refine (gclamp_calls w x).mono ?_
    rintro r w1 ⟨rfl, h1⟩
    go_wp2_with fail
    refine (gclamp_calls w1 was).mono ?_
    rintro r w2 ⟨rfl, h2⟩
    go_wp2_with fail
    rw [show (gcl was - 8 : Int) = gcl was + nextS x was - 8 from by rw [HS.out]; omega]
    refine (gclamp_calls w2 _).mono ?_
    rintro r w3 ⟨rfl, h3⟩
    go_wp2_with fail
    refine (icdf_calls w3 2 (by omega)).mono ?_
    rintro r w4 ⟨v4, rfl, h4⟩
    go_wp2_with fail
    refine (esym_at w3 w4 f g e 2 _ v4 (((HH.out.1.chg h1 (fun _ _ hh => hh)).chg h2 (fun _ _ hh => hh)).chg h3 (fun _ _ hh => hh)) HH.out.2 (by omega) h4 (by omega) (by show _ < (17 : Int); omega)).mono ?_
    rintro r w5 ⟨rfl, f5, h5⟩
    have H5 : Aside0 (∃ f', EncAt w5 f' g (e.next x was) ∧ Chg w w5 f ∧ Ext w f f') := ⟨⟨f5, by rw [E.next, HS.out]; exact h5.1, ((((Chg.refl w f).trans h1 (fun _ h => h.elim)).trans h2 (fun _ h => h.elim)).trans h3 (fun _ h => h.elim)).trans h5.2.1 (Ext.refl _ _), h5.2.2.le (Nat.le_trans (Nat.le_trans h1.size h2.size) h3.size)⟩⟩
    clear h1 h2 h3 h4 h5
    go_wp2_with fail
    go_returns
    exact ⟨rfl, H5.out⟩
  by_cases hB : 16 < gcl x - gcl was + 8
  · have HS : Aside0 (nextS x was = 16) := ⟨by rw [hdef]; unfold mn mx; rw [if_neg hA, if_pos hB]⟩
    clear hdef
    go_enter Try.func63, Try.ntmps63
    go_wp2_with fail
    refine (gclamp_calls w x).mono ?_
    rintro r w1 ⟨rfl, h1⟩
    go_wp2_with fail
    refine (gclamp_calls w1 was).mono ?_
    rintro r w2 ⟨rfl, h2⟩
    go_wp2_with fail
    rw [show (gcl was + 16 - 8 : Int) = gcl was + nextS x was - 8 from by rw [HS.out]]
    refine (gclamp_calls w2 _).mono ?_
    rintro r w3 ⟨rfl, h3⟩
    go_wp2_with fail
    refine (icdf_calls w3 2 (by omega)).mono ?_
    rintro r w4 ⟨v4, rfl, h4⟩
    go_wp2_with fail
    refine (esym_at w3 w4 f g e 2 _ v4 (((HH.out.1.chg h1 (fun _ _ hh => hh)).chg h2 (fun _ _ hh => hh)).chg h3 (fun _ _ hh => hh)) HH.out.2 (by omega) h4 (by omega) (by show _ < (17 : Int); omega)).mono ?_
    rintro r w5 ⟨rfl, f5, h5⟩
    have H5 : Aside0 (∃ f', EncAt w5 f' g (e.next x was) ∧ Chg w w5 f ∧ Ext w f f') := ⟨⟨f5, by rw [E.next, HS.out]; exact h5.1, ((((Chg.refl w f).trans h1 (fun _ h => h.elim)).trans h2 (fun _ h => h.elim)).trans h3 (fun _ h => h.elim)).trans h5.2.1 (Ext.refl _ _), h5.2.2.le (Nat.le_trans (Nat.le_trans h1.size h2.size) h3.size)⟩⟩
    clear h1 h2 h3 h4 h5
    go_wp2_with fail
    go_returns
    exact ⟨rfl, H5.out⟩
  · have HS : Aside0 (nextS x was = gcl x - gcl was + 8) := ⟨by rw [hdef]; unfold mn mx; rw [if_neg hA, if_neg hB]⟩
    clear hdef
    go_enter Try.func63, Try.ntmps63
    go_wp2_with fail
    refine (gclamp_calls w x).mono ?_
    rintro r w1 ⟨rfl, h1⟩
    go_wp2_with fail
    refine (gclamp_calls w1 was).mono ?_
    rintro r w2 ⟨rfl, h2⟩
    go_wp2_with fail
    rw [show (gcl was + (gcl x - gcl was + 8) - 8 : Int) = gcl was + nextS x was - 8 from by rw [HS.out]]
    refine (gclamp_calls w2 _).mono ?_
    rintro r w3 ⟨rfl, h3⟩
    go_wp2_with fail
    refine (icdf_calls w3 2 (by omega)).mono ?_
    rintro r w4 ⟨v4, rfl, h4⟩
    go_wp2_with fail
    refine (esym_at w3 w4 f g e 2 _ v4 (((HH.out.1.chg h1 (fun _ _ hh => hh)).chg h2 (fun _ _ hh => hh)).chg h3 (fun _ _ hh => hh)) HH.out.2 (by omega) h4 (by omega) (by show _ < (17 : Int); omega)).mono ?_
    rintro r w5 ⟨rfl, f5, h5⟩
    have H5 : Aside0 (∃ f', EncAt w5 f' g (e.next x was) ∧ Chg w w5 f ∧ Ext w f f') := ⟨⟨f5, by rw [E.next, HS.out]; exact h5.1, ((((Chg.refl w f).trans h1 (fun _ h => h.elim)).trans h2 (fun _ h => h.elim)).trans h3 (fun _ h => h.elim)).trans h5.2.1 (Ext.refl _ _), h5.2.2.le (Nat.le_trans (Nat.le_trans h1.size h2.size) h3.size)⟩⟩
    clear h1 h2 h3 h4 h5
    go_wp2_with fail
    go_returns
    exact ⟨rfl, H5.out⟩
end Go.Proofs.Ytiabenmgbikllaa.M
