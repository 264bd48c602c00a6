/- What repeats is written. Conditions: bounds on the numbers. -/
import Derived.Test.YtiabenmgbikllaaG5
namespace Go.Proofs.Ytiabenmgbikllaa.M
set_option linter.unusedVariables false
open Go.RowKit Go.Proofs.YtiabenmgbikllaaW.PrintWords Go.Proofs.YtiabenmgbikllaaW.PrintLast Go.Proofs.YtiabenmgbikllaaW.PrintMore Go.Proofs.Ytiabenmgbikllaa.PAll
attribute [local go_sem] max2_int min2_int max_two min_two max_three min_three max_four min_four

theorem EncAt.lt_all {w : World} {f : Nat → Prop} {g : Nat} {e : E} (h : EncAt w f g e) : Lt w f := by
  obtain ⟨_, _, h⟩ := h
  exact h.lt
/-- What repeats is written (at the narrow rate). -/
def E.ltp (e : E) (lag taps : Int) : E := (e.uint (lag - 16) 129).symbol taps (icdf 6)
theorem filters_calls (w : World) : Calls Try.prog 120 #[] w fun r w' => r = .returned (.int .i64 8) ∧ w' = w := by
  go_enter Try.func120, Try.ntmps120
  go_wp2
  go_returns
  exact ⟨rfl, rfl⟩
set_option maxHeartbeats 1000000 in
set_option maxRecDepth 100000 in
theorem wltp_calls (w : World) (f : Nat → Prop) (g : Nat) (e : E) (lag taps : Int) (h : EncAt w f g e) (hk : EOk e) (hk1 : EOk (e.uint (lag - 16) 129)) (l0 : 16 ≤ lag) (l1 : lag ≤ 144) (t0 : 0 ≤ taps) (t1 : taps < 8) :
    Calls Try.prog 64 #[.pointer (some ⟨g, 0, none⟩), .int .i64 8000, .agg #[.int .i64 lag, .int .i64 taps]] w fun r w' => r = .returned (.int .i64 0) ∧ ∃ f', EncAt w' f' g (e.ltp lag taps) ∧ Chg w w' f ∧ Ext w f f' := by
  have HH := Aside0.mk (And.intro h (And.intro hk hk1))
  clear h hk hk1
  have b1 : decide (lag < 16) = false := by simpa using l0
  have b2 : decide (144 < lag) = false := by simpa using l1
  have b3 : decide (taps < 0) = false := by simpa using t0
  have b4 : decide (8 ≤ taps) = false := by simpa using t1
  go_enter Try.func64, Try.ntmps64
  go_wp2_with (go_at_call 30; refine (lags_calls _).mono ?_; rintro r w1 ⟨rfl, n1, rfl⟩)
  have q0 : ((w.alloc (.cells #[.int .i64 lag, .int .i64 taps] 39)).drewN n1).cell? ⟨w.heap.size, 0, none⟩ = some (.int .i64 lag) := blk_cell (heap_alloc_new w _) 0
  have q1 : ((w.alloc (.cells #[.int .i64 lag, .int .i64 taps] 39)).drewN n1).cell? ⟨w.heap.size, 1, none⟩ = some (.int .i64 taps) := blk_cell (heap_alloc_new w _) 1
  have hblk : ((w.alloc (.cells #[.int .i64 lag, .int .i64 taps] 39)).drewN n1).heap[w.heap.size]? = some (.cells #[.int .i64 lag, .int .i64 taps] 39 (0, 0)) := heap_alloc_new w _
  have hch : Chg w ((w.alloc (.cells #[.int .i64 lag, .int .i64 taps] 39)).drewN n1) No := ((Chg.refl w No).alloc _).drewN n1
  have hlt := HH.out.1.lt_all
  generalize (w.alloc (.cells #[.int .i64 lag, .int .i64 taps] 39)).drewN n1 = W2 at *
  obtain ⟨bx, hbx⟩ : ∃ b, b = w.heap.size := ⟨_, rfl⟩
  rw [← hbx] at q0 q1 hblk ⊢
  have H2 := Aside0.mk (And.intro hch (And.intro hbx (And.intro hblk hlt)))
  clear hch hbx hblk hlt
  go_quiet ((go_at_call 120; exact Calls.quiet_of_same (filters_calls _)))
  go_wp2_with fail
  have hnf : ¬ f bx := fun hh => by have := H2.out.2.2.2 bx hh; have := H2.out.2.1; omega
  refine (euint_calls _ f g e (lag - 16) 129 (HH.out.1.chg (H2.out.1.drewN _) (fun _ _ h => h)) HH.out.2.1 (by omega) (by omega) (by omega)).mono ?_
  rintro r w3 ⟨rfl, f3, h3, k3, x3⟩
  have hb3 := k3.blk H2.out.2.2.1 hnf
  have p1 : w3.cell? ⟨bx, 1, none⟩ = some (.int .i64 taps) := blk_cell hb3 1
  have H3 : Aside0 (EncAt w3 f3 g (e.uint (lag - 16) 129) ∧ Chg w w3 f ∧ Ext w f f3) := ⟨h3, ((H2.out.1.drewN _).mono (fun _ h => h.elim)).trans k3 (Ext.refl _ _), x3.le (by have := H2.out.1.size; simpa using this)⟩
  have hnf3 : Aside0 (¬ f3 bx) := ⟨fun hh => (x3 bx hh).elim hnf (fun h => by have := blk_lt H2.out.2.2.1; simp at h; omega)⟩
  have HB3 := Aside0.mk hb3
  clear h3 k3 x3 hb3 q0 q1 hnf
  go_wp2_with fail
  go_region_held3 (fun w' => w'.cell? ⟨bx, 1, none⟩ = some (.int .i64 taps)) (first | go_keep | assumption) (first
    | (go_at_call 88
       refine (icdf_calls _ 6 (by omega)).mono ?_
       rintro r w4 ⟨v4, rfl, h4⟩
       have p4 : w4.cell? ⟨bx, 1, none⟩ = some (.int .i64 taps) := pw_cell_below h4.keep.below_no p1
       have H4 := Aside0.mk h4
       clear h4)
    | (go_at_call 91
       refine (esym_at _ w4 f3 g _ 6 taps v4 (H3.out.1.chg ((Chg.refl w3 No).drew) (fun _ _ h => h)) HH.out.2.2 (by omega) H4.out (by omega) (by show _ < (8 : Int); omega)).mono ?_
       rintro r w5 ⟨rfl, f5, h5⟩
       have p5 : w5.cell? ⟨bx, 1, none⟩ = some (.int .i64 taps) := blk_cell (h5.2.1.blk (blk_drew HB3.out) hnf3.out) 1
       have H5 := Aside0.mk h5
       clear h5))
  all_goals
    go_wp2_with fail
    go_returns
    exact ⟨rfl, f5, H5.out.1, (H3.out.2.1.drew).trans H5.out.2.1 H3.out.2.2, H3.out.2.2.trans H3.out.2.1.size H5.out.2.2⟩
end Go.Proofs.Ytiabenmgbikllaa.M
