/- Whether a slice of bytes has one that is not nought: slices.ContainsFunc at the writer's own test. Conditions: the slice's length. -/
import Derived.Test.YtiabenmgbikllaaA1
import Derived.Handy
import Derived.Outline
namespace Go.Proofs.Ytiabenmgbikllaa.M
open Go.RowKit Go.Proofs.YtiabenmgbikllaaW.PrintWords Go.Proofs.YtiabenmgbikllaaW.PrintLast Go.Proofs.YtiabenmgbikllaaW.PrintMore
attribute [local go_sem] max2_int min2_int max_two min_two max_three min_three max_four min_four

theorem nz_calls (w : World) (x : Int) : Calls Try.prog 97 #[.int .u8 x] w fun r w' => r = .returned (.bool (x != 0)) ∧ w = w' := by
  go_enter Try.func97, Try.ntmps97
  go_wp2
  go_returns
  exact ⟨rfl, rfl⟩

/-- One of the numbers is not nought. -/
def anyNZ (xs : List Int) : Bool := xs.any (fun x => x != 0)
def SomeNZ (xs : List Int) (w : World) (e : Ending) (w' : World) : Prop := ∃ r : Int, e = .returned (.int .i64 r) ∧ decide (0 ≤ r) = anyNZ xs ∧ w = w'

theorem anyNZ_hit (xs : List Int) (k : Nat) (h : k < xs.length) (hx : rd xs k ≠ 0) : anyNZ xs = true := by
  unfold anyNZ
  rw [List.any_eq_true]
  refine ⟨xs[k], List.getElem_mem h, ?_⟩
  have : rd xs k = xs[k] := by simp [rd, h]
  rw [this] at hx
  simpa using hx
theorem anyNZ_none (xs : List Int) (h : ∀ k : Nat, k < xs.length → rd xs k = 0) : anyNZ xs = false := by
  unfold anyNZ
  rw [List.any_eq_false]
  intro x hx
  obtain ⟨k, hk, rfl⟩ := List.getElem_of_mem hx
  have := h k hk
  have e : rd xs k = xs[k] := by simp [rd, hk]
  rw [e] at this
  simp [this]

set_option maxHeartbeats 1000000 in
set_option maxRecDepth 100000 in
theorem indexFunc_calls (w : World) (A : Option Addr) (c : Nat) (xs : List Int) (hr : ReadsInt w .u8 A xs.length xs) (hn : xs.length ≤ 140737488355328) :
    Calls Try.prog 133 #[.slice A xs.length c, .func (.func 97) #[] #[]] w (SomeNZ xs w) := by
  have HR := Aside0.mk hr
  clear hr
  go_enter Try.func133, Try.ntmps133
  go_wp2
  go_loopg [5, 8] xs.length (fun k u5 u8 wr => ∃ i : Nat, wr = w ∧ u8 = .int .i64 i ∧ k + i = xs.length ∧ Aside0 (∀ j : Nat, j < i → rd xs j = 0))
  case atStart => exact ⟨0, rfl, rfl, by omega, ⟨fun j hj => absurd hj (by omega)⟩⟩
  case round =>
    obtain ⟨i, rfl, rfl, hk, HZ⟩ := hrel
    by_cases hi : i < xs.length
    · obtain ⟨ad, rfl, hx⟩ := HR.out.at_ (i : Int) (by omega) (by omega)
      simp only [Int.toNat_natCast] at hx
      by_cases hz : rd xs i = 0
      · have hzb : (rd xs i != 0) = false := by simp [hz]
        have HX := Aside0.mk hz
        clear hz
        go_wp2_with (go_at_call 97; refine (nz_calls _ _).mono ?_; rintro r w1 ⟨rfl, rfl⟩)
        go_roundg (gk - 1)
        case measure => omega
        case rel => exact ⟨i + 1, rfl, by go_num, by omega, ⟨fun j hj => by rcases Nat.lt_succ_iff_lt_or_eq.1 hj with h | h; exact HZ.out j h; rw [h]; exact HX.out⟩⟩
      · have hzb : (rd xs i != 0) = true := by simp [hz]
        have HX := Aside0.mk (anyNZ_hit xs i hi hz)
        clear hz
        go_wp2_with (go_at_call 97; refine (nz_calls _ _).mono ?_; rintro r w1 ⟨rfl, rfl⟩)
        go_returns
        exact ⟨i, rfl, by rw [HX.out]; simp, rfl⟩
    · have HX := Aside0.mk (anyNZ_none xs (fun k hk => HZ.out k (by omega)))
      clear HZ
      go_wp2
      go_returns
      exact ⟨-1, rfl, by rw [HX.out]; simp, rfl⟩

set_option maxHeartbeats 1000000 in
set_option maxRecDepth 100000 in
theorem contains_calls (w : World) (A : Option Addr) (c : Nat) (xs : List Int) (hr : ReadsInt w .u8 A xs.length xs) (hn : xs.length ≤ 140737488355328) :
    Calls Try.prog 96 #[.slice A xs.length c, .func (.func 97) #[] #[]] w fun r w' => r = .returned (.bool (anyNZ xs)) ∧ w = w' := by
  have HR := Aside0.mk hr
  clear hr
  go_enter Try.func96, Try.ntmps96
  go_wp2_with fail
  refine (indexFunc_calls w _ _ xs HR.out hn).mono ?_
  rintro r w1 ⟨r, rfl, hb, rfl⟩
  have HB := Aside0.mk hb
  clear hb
  go_wp2
  go_returns
  refine ⟨?_, rfl⟩
  rw [← HB.out]
  rfl
end Go.Proofs.Ytiabenmgbikllaa.M
