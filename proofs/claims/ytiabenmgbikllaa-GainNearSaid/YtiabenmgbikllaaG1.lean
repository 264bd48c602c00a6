/- Loudness: how loud, and the nearest. Conditions: none. -/
import Derived.Test.YtiabenmgbikllaaG0
namespace Go.Proofs.Ytiabenmgbikllaa.M
set_option linter.unusedVariables false
open Go.RowKit Go.Proofs.YtiabenmgbikllaaW.PrintWords Go.Proofs.YtiabenmgbikllaaW.PrintLast Go.Proofs.YtiabenmgbikllaaW.PrintMore Go.Proofs.Ytiabenmgbikllaa.PAll
attribute [local go_sem] max2_int min2_int max_two min_two max_three min_three max_four min_four

/-- A loudness within its bounds. -/
def gcl (g : Int) : Int := clampI g 0 63
theorem gclamp_f (g : Int) : gain_clamp.f g = some (gcl g) := by
  unfold gain_clamp.f gcl clampI mn mx
  congr 1
  have e : ¬ (0 : Int) > 63 := by decide
  rw [if_neg e]
  by_cases h1 : g < 0
  · simp [h1]
  · by_cases h2 : 63 < g
    · simp [h1, h2]
    · simp [h1, h2]
theorem gclamp_calls (w : World) (g : Int) : Calls Try.prog 68 #[.int .i64 g] w fun r w' => r = .returned (.int .i64 (gcl g)) ∧ Chg w w' No :=
  (gain_clamp.calls g _ w (gclamp_f g)).mono fun r w' ⟨h1, h2⟩ => ⟨h1, Chg.of_below h2 No⟩
theorem gcl_range (g : Int) : 0 ≤ gcl g ∧ gcl g ≤ 63 := clampI_range g 0 63 (by decide)
def loud (g : Int) : Int := exp2 (70 * gcl g)

set_option maxHeartbeats 1000000 in
set_option maxRecDepth 100000 in
theorem loud_calls (w : World) (g : Int) : Calls Try.prog 20 #[.int .i64 g] w fun r w' => r = .returned (.int .i64 (loud g)) ∧ Chg w w' No := by
  obtain ⟨c0, c1⟩ := gcl_range g
  go_enter Try.func20, Try.ntmps20
  go_wp2_with (first
    | (go_at_call 68; refine (gclamp_calls _ g).mono ?_; rintro r w1 ⟨rfl, h1⟩; have H1 := Aside0.mk h1; clear h1)
    | (go_at_call 67; refine (exp2_calls _ (70 * gcl g) (by omega) (by omega)).mono ?_; rintro r w2 ⟨rfl, n, rfl⟩))
  go_returns
  exact ⟨rfl, H1.out.drewN _⟩

/-- The table of loudness. -/
def loudT : List Int := (List.range 64).map fun g : Nat => loud (g : Int)
theorem loudT_eq : loudT = [1, 1, 1, 2, 2, 3, 3, 4, 5, 6, 7, 8, 10, 12, 14, 17, 21, 25, 30, 37, 44, 54, 65, 78, 95, 114, 138, 167, 202, 244, 295, 356, 431, 520, 629, 760, 919, 1111, 1342, 1623, 1961, 2370, 2865, 3463, 4186, 5059, 6115, 7391, 8933, 10798, 13051, 15775, 19066, 23045, 27855, 33667, 40693, 49185, 59449, 71856, 86851, 104975, 126882, 153360] := by decide +kernel
theorem gcl_id (g : Int) (h0 : 0 ≤ g) (h1 : g ≤ 63) : gcl g = g := clampI_id g 0 63 h0 h1
theorem loud_gcl (g : Int) : loud (gcl g) = loud g := by
  have := gcl_range g
  unfold loud
  rw [gcl_id (gcl g) this.1 this.2]
theorem loud_at (g : Nat) (h : g < 64) : loud g = loudT.getD g 0 := by simp [loudT, h]
theorem loudT_ok : loudT.length = 64 ∧ (∀ i : Fin 63, loudT.getD i 0 ≤ loudT.getD (i + 1) 0) ∧ loudT.getD 0 0 = 1 ∧ loudT.getD 63 0 = 153360 := by
  rw [loudT_eq]; decide
theorem loud_step (g : Nat) (h : g < 63) : loud g ≤ loud (g + 1 : Nat) := by
  rw [loud_at g (by omega), loud_at (g + 1) (by omega)]
  exact loudT_ok.2.1 ⟨g, h⟩
theorem loud_mono (a b : Nat) (h : a ≤ b) (hb : b < 64) : loud a ≤ loud b := by
  induction b with
  | zero => rw [show a = 0 by omega]; exact Int.le_refl _
  | succ b ih =>
    by_cases hab : a = b + 1
    · rw [hab]; exact Int.le_refl _
    · exact Int.le_trans (ih (by omega) (by omega)) (loud_step b (by omega))
theorem loud_range (g : Int) : 1 ≤ loud g ∧ loud g ≤ 153360 := by
  have hg := gcl_range g
  rw [← loud_gcl]
  obtain ⟨n, hn⟩ := Int.eq_ofNat_of_zero_le hg.1
  rw [hn]
  have h0 := loud_mono 0 n (by omega) (by omega)
  have h1 := loud_mono n 63 (by omega) (by omega)
  have e0 : loud (0 : Nat) = 1 := by rw [loud_at 0 (by omega)]; exact loudT_ok.2.2.1
  have e1 : loud (63 : Nat) = 153360 := by rw [loud_at 63 (by omega)]; exact loudT_ok.2.2.2
  omega

def dist (a b : Int) : Int := if a - b < b - a then b - a else a - b
theorem dist_abs (a b : Int) : 0 ≤ dist a b ∧ (dist a b = a - b ∨ dist a b = b - a) := by unfold dist; split <;> omega
theorem far_calls (w : World) (a b : Int) (ha : -1152921504606846976 ≤ a ∧ a ≤ 1152921504606846976) (hb : -1152921504606846976 ≤ b ∧ b ≤ 1152921504606846976) :
    Calls Try.prog 66 #[.int .i64 a, .int .i64 b] w fun r w' => r = .returned (.int .i64 (dist a b)) ∧ Chg w w' No := by
  have e : gain_far.f a b = some (dist a b) := by
    unfold gain_far.f dist mx
    rw [show wrap64 (a - b) = a - b from by unfold wrap64; omega, show wrap64 (b - a) = b - a from by unfold wrap64; omega]
  exact (gain_far.calls a b _ w e).mono fun r w' ⟨h1, h2⟩ => ⟨h1, Chg.of_below h2 No⟩

/-- The nearest of the first ones. -/
def nearN (v : Int) : Nat → Nat
  | 0 => 0
  | g + 1 => if dist (loud (g + 1 : Nat)) v < dist (loud (nearN v g)) v then g + 1 else nearN v g
theorem nearN_le (v : Int) : ∀ g, nearN v g ≤ g
  | 0 => Nat.le_refl _
  | g + 1 => by
    have := nearN_le v g
    unfold nearN; split <;> omega
theorem nearN_best (v : Int) : ∀ g k : Nat, k ≤ g → dist (loud (nearN v g)) v ≤ dist (loud k) v ∧ (dist (loud k) v = dist (loud (nearN v g)) v → nearN v g ≤ k)
  | 0, k, h => by rw [show k = 0 by omega]; exact ⟨Int.le_refl _, fun _ => Nat.le_refl _⟩
  | g + 1, k, h => by
    have hle := nearN_le v g
    unfold nearN
    by_cases hc : dist (loud (g + 1 : Nat)) v < dist (loud (nearN v g)) v
    · rw [if_pos hc]
      by_cases hk : k = g + 1
      · rw [hk]; exact ⟨Int.le_refl _, fun _ => Nat.le_refl _⟩
      · have := nearN_best v g k (by omega)
        exact ⟨by omega, fun he => by omega⟩
    · rw [if_neg hc]
      by_cases hk : k = g + 1
      · rw [hk]; exact ⟨by omega, fun _ => by omega⟩
      · exact nearN_best v g k (by omega)
/-- The nearest loudness. -/
def nearest (v : Int) : Nat := nearN (clampI v 0 306720) 63

set_option maxHeartbeats 1000000 in
set_option maxRecDepth 100000 in
theorem nearest_calls (w : World) (v : Int) : Calls Try.prog 19 #[.int .i64 v] w fun r w' => r = .returned (.int .i64 (nearest v)) ∧ Chg w w' No := by
  have hl63 : loud 63 = 153360 := by
    have := loud_at 63 (by omega)
    rw [loudT_ok.2.2.2] at this
    exact this
  obtain ⟨c0, c1⟩ := clampI_range v 0 306720 (by decide)
  obtain ⟨u, hu⟩ : ∃ u : Int, u = clampI v 0 306720 := ⟨_, rfl⟩
  rw [← hu] at c0 c1
  have HU := Aside0.mk hu
  have HL := Aside0.mk hl63
  clear hu hl63
  go_enter Try.func19, Try.ntmps19
  go_wp2_with (first
    | (go_at_call 20; refine (loud_calls _ 63).mono ?_; rintro r w1 ⟨rfl, h1⟩; rw [HL.out]; have H1 := Aside0.mk h1; clear h1)
    | (go_at_call 65; refine (clamp_calls _ v 0 306720).mono ?_; rintro r w2 ⟨rfl, n2, rfl⟩; rw [← HU.out]))
  have H2 : Aside0 (Chg w (w1.drewN n2) No) := ⟨H1.out.drewN _⟩
  clear H1
  go_loopg [3, 4] 63 (fun k u3 u4 wr => ∃ i b : Nat, u4 = .int .i64 ((i : Int) + 1) ∧ u3 = .int .i64 (b : Int) ∧ k + i = 63 ∧ Aside0 (b = nearN u i) ∧ Aside0 (Chg w wr No))
  case atStart => exact ⟨0, 0, rfl, rfl, rfl, ⟨rfl⟩, H2⟩
  case round =>
    clear H2
    obtain ⟨i, b, rfl, rfl, hk, HB, HC⟩ := hrel
    have hbi : b ≤ i := by rw [HB.out]; exact nearN_le u i
    by_cases hi : i < 63
    · have l1 := loud_range ((i : Int) + 1)
      have l2 := loud_range (b : Int)
      have HN : Aside0 (nearN u (i + 1) = if dist (loud ((i : Int) + 1)) u < dist (loud b) u then i + 1 else b) := ⟨by rw [HB.out]; rfl⟩
      obtain ⟨x, hx⟩ : ∃ x : Int, x = loud ((i : Int) + 1) := ⟨_, rfl⟩
      obtain ⟨y, hy⟩ : ∃ y : Int, y = loud (b : Int) := ⟨_, rfl⟩
      have HX := Aside0.mk (And.intro hx hy)
      rw [← hx] at l1
      rw [← hy] at l2
      clear hx hy
      obtain ⟨l1a, l1b⟩ := l1
      obtain ⟨l2a, l2b⟩ := l2
      go_wp2_with fail
      refine (loud_calls _ _).mono ?_
      rintro r w3 ⟨rfl, h3⟩
      rw [← HX.out.1]
      go_wp2_with fail
      refine (far_calls _ x u (by omega) (by omega)).mono ?_
      rintro r w4 ⟨rfl, h4⟩
      go_wp2_with fail
      refine (loud_calls _ _).mono ?_
      rintro r w5 ⟨rfl, h5⟩
      rw [← HX.out.2]
      go_wp2_with fail
      refine (far_calls _ y u (by omega) (by omega)).mono ?_
      rintro r w6 ⟨rfl, h6⟩
      have HC6 : Aside0 (Chg w w6 No) := ⟨(((HC.out.trans h3 (Ext.refl _ _)).trans h4 (Ext.refl _ _)).trans h5 (Ext.refl _ _)).trans h6 (Ext.refl _ _)⟩
      clear h3 h4 h5 h6 HC
      by_cases ht : dist x u < dist y u
      · have HR : Aside0 (i + 1 = nearN u (i + 1)) := ⟨by rw [HN.out, ← HX.out.1, ← HX.out.2, if_pos ht]⟩
        go_wp2
        go_roundg (gk - 1)
        case measure => omega
        case rel => exact ⟨i + 1, i + 1, by go_num, by go_num, by omega, HR, HC6⟩
      · have HR : Aside0 (b = nearN u (i + 1)) := ⟨by rw [HN.out, ← HX.out.1, ← HX.out.2, if_neg ht]⟩
        go_wp2
        go_roundg (gk - 1)
        case measure => omega
        case rel => exact ⟨i + 1, b, by go_num, rfl, by omega, HR, HC6⟩
    · have HR : Aside0 (b = nearest v) := ⟨by rw [HB.out, nearest, ← HU.out, show i = 63 by omega]⟩
      go_wp2
      go_returns
      exact ⟨by rw [← HR.out]; rfl, HC.out⟩
end Go.Proofs.Ytiabenmgbikllaa.M
