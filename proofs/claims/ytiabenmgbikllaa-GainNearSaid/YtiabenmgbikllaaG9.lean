/- The nearest loudness is the nearest, and the law that asks it answers true. Conditions: none. -/
import Derived.Test.YtiabenmgbikllaaG8
namespace Go.Proofs.Ytiabenmgbikllaa.M
set_option linter.unusedVariables false
open Go.RowKit Go.Proofs.YtiabenmgbikllaaW.PrintWords Go.Proofs.YtiabenmgbikllaaW.PrintLast Go.Proofs.YtiabenmgbikllaaW.PrintMore Go.Proofs.Ytiabenmgbikllaa.PAll
attribute [local go_sem] max2_int min2_int max_two min_two max_three min_three max_four min_four

theorem near_best (v : Int) (h0 : 0 ≤ v) (h1 : v ≤ 1099511627776) (k : Nat) (hk : k ≤ 63) : dist (loud (nearest v)) v ≤ dist (loud k) v ∧ (dist (loud k) v = dist (loud (nearest v)) v → nearest v ≤ k) := by
  have hb := nearN_best (clampI v 0 306720) 63 k hk
  have l1 := loud_range (nearest v)
  have l2 := loud_range (k : Int)
  by_cases hv : v ≤ 306720
  · have he : clampI v 0 306720 = v := by unfold clampI; split <;> (try split) <;> omega
    rw [he] at hb
    unfold nearest
    rw [he]
    exact hb
  · have he : clampI v 0 306720 = 306720 := by unfold clampI; split <;> (try split) <;> omega
    have hn : nearest v = nearN 306720 63 := by unfold nearest; rw [he]
    rw [he, ← hn] at hb
    have d1 := dist_abs (loud (nearest v)) v
    have d2 := dist_abs (loud k) v
    have d3 := dist_abs (loud (nearest v)) 306720
    have d4 := dist_abs (loud k) 306720
    exact ⟨by omega, fun h => hb.2 (by omega)⟩
theorem near_le (v : Int) : nearest v ≤ 63 := nearN_le _ 63

set_option maxHeartbeats 2000000 in
set_option maxRecDepth 100000 in
theorem gainNear_calls (a0 : Int) (w : World) :
    Calls Try.prog 3 #[.int .i64 a0] w fun e w' => e = .returned (.bool true) ∧ Below w.heap.size w w' := by
  by_cases h0 : a0 < 0
  · go_enter Try.func3, Try.ntmps3
    have b1 : decide (a0 < 0) = true := by simpa using h0
    go_wp2_with (go_at_call 18; refine (awake_calls w).mono ?_; rintro r w1 ⟨rfl, c1⟩)
    go_returns
    exact ⟨rfl, c1.below_no⟩
  by_cases h1 : 1099511627776 < a0
  · go_enter Try.func3, Try.ntmps3
    have b1 : decide (a0 < 0) = false := by simpa using h0
    have b2 : decide (1099511627776 < a0) = true := by simpa using h1
    go_wp2_with (go_at_call 18; refine (awake_calls w).mono ?_; rintro r w1 ⟨rfl, c1⟩)
    go_returns
    exact ⟨rfl, c1.below_no⟩
  have b1 : decide (a0 < 0) = false := by simpa using h0
  have b2 : decide (1099511627776 < a0) = false := by simpa using h1
  have B := near_best a0 (by omega) (by omega)
  have hg := near_le a0
  obtain ⟨g, hgg⟩ : ∃ g, g = nearest a0 := ⟨_, rfl⟩
  rw [← hgg] at B hg
  have BB := Aside0.mk (And.intro B hgg)
  clear B hgg
  have b3 : decide ((g : Int) < 0) = false := by simp
  have b4 : decide (63 < (g : Int)) = false := decide_eq_false (by omega)
  go_enter Try.func3, Try.ntmps3
  go_wp2_with (first
    | (go_at_call 18; refine (awake_calls w).mono ?_; rintro r w1 ⟨rfl, c1⟩)
    | (go_at_call 19; refine (nearest_calls _ a0).mono ?_; rintro r w2 ⟨rfl, c2⟩; rw [← BB.out.2]))
  have H2 := Aside0.mk (Chg.trans c1 c2 (Ext.refl _ _))
  clear c1 c2
  go_loopg [4] 64 (fun n u4 wr => ∃ k : Nat, u4 = .int .i64 (k : Int) ∧ n + k = 64 ∧ Aside0 (Chg w wr No))
  case atStart => exact ⟨0, rfl, rfl, H2⟩
  case round =>
    clear H2
    obtain ⟨k, rfl, hk, HC⟩ := hrel
    by_cases hk64 : k < 64
    · have HN := Aside0.mk (BB.out.1 k (by omega))
      have l1 := loud_range (g : Int)
      have l2 := loud_range (k : Int)
      obtain ⟨x, hx⟩ : ∃ x : Int, x = loud (g : Int) := ⟨_, rfl⟩
      obtain ⟨y, hy⟩ : ∃ y : Int, y = loud (k : Int) := ⟨_, rfl⟩
      have HX := Aside0.mk (And.intro hx hy)
      rw [← hx] at l1
      rw [← hy] at l2
      clear hx hy
      go_wp2_with fail
      refine (loud_calls _ _).mono ?_
      rintro r w3 ⟨rfl, h3⟩
      rw [← HX.out.1]
      go_wp2_with fail
      refine (loud_calls _ _).mono ?_
      rintro r w4 ⟨rfl, h4⟩
      rw [← HX.out.2]
      have HC4 : Aside0 (Chg w w4 No) := ⟨(HC.out.trans h3 (Ext.refl _ _)).trans h4 (Ext.refl _ _)⟩
      clear h3 h4 HC
      obtain ⟨l1a, l1b⟩ := l1
      obtain ⟨l2a, l2b⟩ := l2
      have HD : Aside0 ((a0 < x ∧ a0 < y → ¬ y - a0 < x - a0 ∧ (y - a0 = x - a0 → g ≤ k)) ∧ (a0 < x ∧ ¬ a0 < y → ¬ a0 - y < x - a0 ∧ (a0 - y = x - a0 → g ≤ k)) ∧ (¬ a0 < x ∧ a0 < y → ¬ y - a0 < a0 - x ∧ (y - a0 = a0 - x → g ≤ k)) ∧ (¬ a0 < x ∧ ¬ a0 < y → ¬ a0 - y < a0 - x ∧ (a0 - y = a0 - x → g ≤ k))) := by
        have hn := HN.out
        rw [← HX.out.1, ← HX.out.2] at hn
        unfold dist at hn
        refine ⟨⟨fun hh => ?_, fun hh => ?_, fun hh => ?_, fun hh => ?_⟩⟩
        all_goals
          split at hn <;> split at hn <;> exact ⟨by omega, fun he => hn.2 (by omega)⟩
      go_wp2
      all_goals first
        | (exfalso; have hd := HD.out; omega)
        | (go_roundg (gk - 1)
           case measure => omega
           case rel => exact ⟨k + 1, by go_num, by omega, HC4⟩)
    · have : k = 64 := by omega
      subst this
      go_wp2_with fail
      go_returns
      exact ⟨rfl, HC.out.below_no⟩
end Go.Proofs.Ytiabenmgbikllaa.M
