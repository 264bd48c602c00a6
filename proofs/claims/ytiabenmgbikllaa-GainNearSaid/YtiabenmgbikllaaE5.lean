/- A slice of bytes is copied. Conditions: the slice's length. -/
import Derived.Test.YtiabenmgbikllaaA1
import Derived.Lib.LazyBuf
import Derived.Handy
import Derived.Outline
namespace Go.Proofs.Ytiabenmgbikllaa.M
open Go.RowKit Go.Proofs.YtiabenmgbikllaaW.PrintWords Go.Proofs.YtiabenmgbikllaaW.PrintLast Go.Proofs.YtiabenmgbikllaaW.PrintMore
attribute [local go_sem] max2_int min2_int max_two min_two max_three min_three max_four min_four

set_option maxHeartbeats 1000000 in
set_option maxRecDepth 100000 in
theorem clone_calls (w : World) (v : Value) (xs : List Int) (h : Rd w .u8 v xs) (hn : xs.length ≤ 140737488355328) :
    Calls Try.prog 69 #[v] w fun r w' => ∃ v1, r = .returned v1 ∧ w'.ownsRow 0 5 1 v1 xs.length (nums .u8 xs) ∧ Chg w w' No ∧ Ge w.heap.size (blkOf v1) := by
  rcases h with ⟨rfl, rfl⟩ | ⟨ad, c, rfl, hc, hr⟩
  · have he := fun w : World => run_eql_slice_nil (P := Try.prog) w 26 5 none 0 0 Try.underlying26
    go_enter Try.func69, Try.ntmps69
    go_wp2
    go_returns
    exact ⟨_, rfl, own_nil _ _ _ _, Chg.refl w No, fun k hk => by cases hk⟩
  · have he := fun w : World => run_eql_slice_nil (P := Try.prog) w 26 5 (some ad) xs.length c Try.underlying26
    have HR := Aside0.mk hr
    clear hr
    go_enter Try.func69, Try.ntmps69
    go_wp2_with (at_builtin; refine appRow rfl (.tmp 5) (.tmp 6) 26 5 .u8 1 rfl Try.underlying26 info5 (by omega) (.slice (some ⟨w.heap.size, 0, none⟩) 0 0) [] xs _ _ c rfl rfl (own_lit _ _ _ _ _ (Nat.zero_le _) (by simp)) (HR.out.below (below_alloc (Below.refl _ _) _)) (by simp; omega) ?_; intro v1 w1 ho hch hx)
    have HO : Aside0 (w1.ownsRow 0 5 1 v1 xs.length (nums .u8 xs) ∧ Chg w w1 No ∧ Ge w.heap.size (blkOf v1)) := by
      refine ⟨ho, ((Chg.refl w No).alloc _).trans hch (fun b hb => .inr ?_), fun b hb => ?_⟩
      · have : w.heap.size = b := by simpa [blkOf, Value.ownBlock] using hb
        omega
      · rcases hx b hb with hh | hh
        · have : w.heap.size = b := by simpa [blkOf, Value.ownBlock] using hh
          omega
        · simp at hh; omega
    clear ho hch hx
    go_wp2
    go_returns
    exact ⟨v1, rfl, HO.out⟩
end Go.Proofs.Ytiabenmgbikllaa.M
