/- Contracts of the program's functions and plain laws for the law PulseKnown, several texts in one (part 4); the program's functions as Lean functions came out of the kit's print. Conditions: each theorem's own. -/
import Derived.Test.YtiabenmgbikllaaQPulseKnownc
-- PAllx3
namespace Go.Proofs.Ytiabenmgbikllaa.PAll
open Go.RowKit Go.Proofs.YtiabenmgbikllaaW.PrintWords Go.Proofs.YtiabenmgbikllaaW.PrintLast Go.Proofs.YtiabenmgbikllaaW.PrintMore
attribute [local go_sem] max2_int min2_int max_two min_two max_three min_three max_four min_four   -- for this text's walks alone
set_option linter.unusedVariables false
set_option linter.unusedSimpArgs false

/-- A state of type 95 at block g of W; what its slices lead to came in by w0. -/
def IsS95 (w0 W : World) (g : Nat) (f0 : List Int) (f1 : Int) (f2 : Int) (f3 : Int) (f4 : Int) (f5 : Int) (f6 : Int) (f7 : Int) (f8 : Int) (f9 : Bool) (f10 : Int) : Prop := ∃ A0 c0, W.heap[g]? = some (.cells #[.slice A0 f0.length c0, .int .u64 f1, .int .u64 f2, .int .i64 f3, .int .i64 f4, .int .i64 f5, .int .u64 f6, .int .i64 f7, .int .i64 f8, .bool f9, .int .u64 f10] 95 (0, 0)) ∧ w0.heap.size ≤ g ∧ Kd.C (Kd.int .u8) w0 A0 f0.length f0
theorem IsS95.grown {w0 W : World} {g : Nat} {f0 : List Int} {f1 : Int} {f2 : Int} {f3 : Int} {f4 : Int} {f5 : Int} {f6 : Int} {f7 : Int} {f8 : Int} {f9 : Bool} {f10 : Int} {W1 : World} {row : Option Nat} (h : IsS95 w0 W g f0 f1 f2 f3 f4 f5 f6 f7 f8 f9 f10) (hw : W.grownBy W1 row) (hne : some g ≠ row) : IsS95 w0 W1 g f0 f1 f2 f3 f4 f5 f6 f7 f8 f9 f10 := by
  obtain ⟨A0, c0, hb, hg, hr0⟩ := h
  exact ⟨A0, c0, blk_grown hb hw hne, hg, hr0⟩
theorem IsS95.kept {w0 W : World} {g : Nat} {f0 : List Int} {f1 : Int} {f2 : Int} {f3 : Int} {f4 : Int} {f5 : Int} {f6 : Int} {f7 : Int} {f8 : Int} {f9 : Bool} {f10 : Int} {W1 : World} {S : Nat → Prop} (h : IsS95 w0 W g f0 f1 f2 f3 f4 f5 f6 f7 f8 f9 f10) (hk : Kept W W1 S) (hne : ¬ S g) : IsS95 w0 W1 g f0 f1 f2 f3 f4 f5 f6 f7 f8 f9 f10 := by
  obtain ⟨A0, c0, hb, hg, hr0⟩ := h
  exact ⟨A0, c0, blk_kept hb hk hne, hg, hr0⟩
theorem IsS95.below {w0 W : World} {g : Nat} {f0 : List Int} {f1 : Int} {f2 : Int} {f3 : Int} {f4 : Int} {f5 : Int} {f6 : Int} {f7 : Int} {f8 : Int} {f9 : Bool} {f10 : Int} {W1 : World} (h : IsS95 w0 W g f0 f1 f2 f3 f4 f5 f6 f7 f8 f9 f10) (hw : Below W.heap.size W W1) : IsS95 w0 W1 g f0 f1 f2 f3 f4 f5 f6 f7 f8 f9 f10 := h.grown (grown_of_below hw none) (by simp)
theorem IsS95.alloc {w0 W : World} {g : Nat} {f0 : List Int} {f1 : Int} {f2 : Int} {f3 : Int} {f4 : Int} {f5 : Int} {f6 : Int} {f7 : Int} {f8 : Int} {f9 : Bool} {f10 : Int} (h : IsS95 w0 W g f0 f1 f2 f3 f4 f5 f6 f7 f8 f9 f10) (o : Obj) : IsS95 w0 (W.alloc o) g f0 f1 f2 f3 f4 f5 f6 f7 f8 f9 f10 := h.below (below_alloc (Below.refl _ _) o)
theorem IsS95.drewN {w0 W : World} {g : Nat} {f0 : List Int} {f1 : Int} {f2 : Int} {f3 : Int} {f4 : Int} {f5 : Int} {f6 : Int} {f7 : Int} {f8 : Int} {f9 : Bool} {f10 : Int} (h : IsS95 w0 W g f0 f1 f2 f3 f4 f5 f6 f7 f8 f9 f10) (m : Nat) : IsS95 w0 (W.drewN m) g f0 f1 f2 f3 f4 f5 f6 f7 f8 f9 f10 := h
theorem IsS95.drew {w0 W : World} {g : Nat} {f0 : List Int} {f1 : Int} {f2 : Int} {f3 : Int} {f4 : Int} {f5 : Int} {f6 : Int} {f7 : Int} {f8 : Int} {f9 : Bool} {f10 : Int} (h : IsS95 w0 W g f0 f1 f2 f3 f4 f5 f6 f7 f8 f9 f10) : IsS95 w0 W.drew g f0 f1 f2 f3 f4 f5 f6 f7 f8 f9 f10 := h
theorem IsS95.at_ {w0 W : World} {g : Nat} {f0 : List Int} {f1 : Int} {f2 : Int} {f3 : Int} {f4 : Int} {f5 : Int} {f6 : Int} {f7 : Int} {f8 : Int} {f9 : Bool} {f10 : Int} {w' : World} {m : Nat} (hq : W.drewN m = w') (h : IsS95 w0 W g f0 f1 f2 f3 f4 f5 f6 f7 f8 f9 f10) : IsS95 w0 w' g f0 f1 f2 f3 f4 f5 f6 f7 f8 f9 f10 := by subst hq; exact IsS95.drewN h m
theorem IsS95.own_ne {w0 W : World} {g : Nat} {f0 : List Int} {f1 : Int} {f2 : Int} {f3 : Int} {f4 : Int} {f5 : Int} {f6 : Int} {f7 : Int} {f8 : Int} {f9 : Bool} {f10 : Int} {α : Type} {d : Kd α} {e : Nat} {base : Nat} {ok : Nat → Prop} {v : Value} {xs : List α} (h : IsS95 w0 W g f0 f1 f2 f3 f4 f5 f6 f7 f8 f9 f10) (ho : d.R e W base ok v xs) (ht : e ≠ 95) : some g ≠ v.ownBlock := by
  obtain ⟨A0, c0, hb, hg, hr0⟩ := h
  exact Kd.R_ne ho hb ht
theorem IsS95.far {w0 W : World} {g : Nat} {f0 : List Int} {f1 : Int} {f2 : Int} {f3 : Int} {f4 : Int} {f5 : Int} {f6 : Int} {f7 : Int} {f8 : Int} {f9 : Bool} {f10 : Int} {p : Addr} (h : IsS95 w0 W g f0 f1 f2 f3 f4 f5 f6 f7 f8 f9 f10) (hne : g ≠ p.block) (u : Value) : IsS95 w0 (W.setCell p u) g f0 f1 f2 f3 f4 f5 f6 f7 f8 f9 f10 := by
  obtain ⟨A0, c0, hb, hg, hr0⟩ := h
  exact ⟨A0, c0, blk_far hb hne u, hg, hr0⟩
theorem IsS95.set_2 {w0 W : World} {g : Nat} {f0 : List Int} {f1 : Int} {f2 : Int} {f3 : Int} {f4 : Int} {f5 : Int} {f6 : Int} {f7 : Int} {f8 : Int} {f9 : Bool} {f10 : Int} (h : IsS95 w0 W g f0 f1 f2 f3 f4 f5 f6 f7 f8 f9 f10) (x : Int) : IsS95 w0 (W.setCell ⟨g, 2, none⟩ (.int .u64 x)) g f0 f1 x f3 f4 f5 f6 f7 f8 f9 f10 := by
  obtain ⟨A0, c0, hb, hg, hr0⟩ := h
  exact ⟨A0, c0, by simpa using blk_set hb 2 (.int .u64 x), hg, hr0⟩
theorem IsS95.set_7 {w0 W : World} {g : Nat} {f0 : List Int} {f1 : Int} {f2 : Int} {f3 : Int} {f4 : Int} {f5 : Int} {f6 : Int} {f7 : Int} {f8 : Int} {f9 : Bool} {f10 : Int} (h : IsS95 w0 W g f0 f1 f2 f3 f4 f5 f6 f7 f8 f9 f10) (x : Int) : IsS95 w0 (W.setCell ⟨g, 7, none⟩ (.int .i64 x)) g f0 f1 f2 f3 f4 f5 f6 x f8 f9 f10 := by
  obtain ⟨A0, c0, hb, hg, hr0⟩ := h
  exact ⟨A0, c0, by simpa using blk_set hb 7 (.int .i64 x), hg, hr0⟩
theorem IsS95.set_8 {w0 W : World} {g : Nat} {f0 : List Int} {f1 : Int} {f2 : Int} {f3 : Int} {f4 : Int} {f5 : Int} {f6 : Int} {f7 : Int} {f8 : Int} {f9 : Bool} {f10 : Int} (h : IsS95 w0 W g f0 f1 f2 f3 f4 f5 f6 f7 f8 f9 f10) (x : Int) : IsS95 w0 (W.setCell ⟨g, 8, none⟩ (.int .i64 x)) g f0 f1 f2 f3 f4 f5 f6 f7 x f9 f10 := by
  obtain ⟨A0, c0, hb, hg, hr0⟩ := h
  exact ⟨A0, c0, by simpa using blk_set hb 8 (.int .i64 x), hg, hr0⟩
theorem IsS95.new (w0 W : World) (A0 : Option Addr) (c0 : Nat) (f0 : List Int) (f1 : Int) (f2 : Int) (f3 : Int) (f4 : Int) (f5 : Int) (f6 : Int) (f7 : Int) (f8 : Int) (f9 : Bool) (f10 : Int) (hB : Below w0.heap.size w0 W) (hr0 : Kd.C (Kd.int .u8) w0 A0 f0.length f0) : IsS95 w0 (W.alloc (.cells #[.slice A0 f0.length c0, .int .u64 f1, .int .u64 f2, .int .i64 f3, .int .i64 f4, .int .i64 f5, .int .u64 f6, .int .i64 f7, .int .i64 f8, .bool f9, .int .u64 f10] 95)) W.heap.size f0 f1 f2 f3 f4 f5 f6 f7 f8 f9 f10 := ⟨A0, c0, by simpa using heap_alloc_new W _, hB.size, hr0⟩

def madrigalref3_Dec_next.f (s0_0 : List Int) (s0_1 : Int) (s0_2 : Int) (s0_3 : Int) (s0_4 : Int) (s0_5 : Int) (s0_6 : Int) (s0_7 : Int) (s0_8 : Int) (s0_9 : Bool) (s0_10 : Int) : Option (Int × Int × Int × Int × Int × Int × Int × Int × Int × Bool × Int) := if s0_4 ≥ (s0_0.length : Int) then (some (0, s0_1, s0_2, s0_3, s0_4, s0_5, s0_6, s0_7, s0_8, s0_9, s0_10)) else (if 0 ≤ (wrap64 ((wrap64 (s0_4 + 1)) - 1)) then (if (wrap64 ((wrap64 (s0_4 + 1)) - 1)) < (s0_0.length : Int) then (some (wrap64 (rd s0_0 (wrap64 ((wrap64 (s0_4 + 1)) - 1))), s0_1, s0_2, s0_3, wrap64 (s0_4 + 1), s0_5, s0_6, s0_7, s0_8, s0_9, s0_10)) else (none)) else (none))
def madrigalref3_Dec_on.l0 : Nat → List Int → Int → Int → Int → Int → Int → Int → Int → Int → Bool → Int → Option (Int × Int × Int × Int × Int × Int × Int × Int × Bool × Int)
  | 0, _, _, _, _, _, _, _, _, _, _, _ => none
  | k + 1, x1000, x1001, x1002, x1003, x1004, x1005, x1006, x1007, x1008, x1009, x1010 => if x1001 ≤ 8388608 then ((madrigalref3_Dec_next.f x1000 (IntKind.u64.wrap (x1001 * 256)) x1002 x1003 x1004 x1005 x1006 x1007 (wrap64 (x1008 + 8)) x1009 x1010).bind fun bt257 => (madrigalref3_Dec_on.l0 k x1000 bt257.2.1 (Int.tmod (IntKind.u64.wrap ((IntKind.u64.wrap (256 * bt257.2.2.1)) + (IntKind.u64.wrap (wrap64 (255 - (Int.tmod (wrap64 (Int.tdiv (wrap64 ((wrap64 (256 * x1003)) + bt257.1)) 2)) 256)))))) 2147483648) bt257.1 bt257.2.2.2.2.1 bt257.2.2.2.2.2.1 bt257.2.2.2.2.2.2.1 bt257.2.2.2.2.2.2.2.1 bt257.2.2.2.2.2.2.2.2.1 bt257.2.2.2.2.2.2.2.2.2.1 bt257.2.2.2.2.2.2.2.2.2.2)) else (some (x1001, x1002, x1003, x1004, x1005, x1006, x1007, x1008, x1009, x1010))
def madrigalref3_Dec_on.f (k : Nat) (s0_0 : List Int) (s0_1 : Int) (s0_2 : Int) (s0_3 : Int) (s0_4 : Int) (s0_5 : Int) (s0_6 : Int) (s0_7 : Int) (s0_8 : Int) (s0_9 : Bool) (s0_10 : Int) : Option (Int × Int × Int × Int × Int × Int × Int × Int × Bool × Int) := madrigalref3_Dec_on.l0 k s0_0 s0_1 s0_2 s0_3 s0_4 s0_5 s0_6 s0_7 s0_8 s0_9 s0_10
theorem madrigalref3_Dec_on.mono_l : ∀ k, (∀ y0 y1 y2 y3 y4 y5 y6 y7 y8 y9 y10, LeO (madrigalref3_Dec_on.l0 k y0 y1 y2 y3 y4 y5 y6 y7 y8 y9 y10) (madrigalref3_Dec_on.l0 (k + 1) y0 y1 y2 y3 y4 y5 y6 y7 y8 y9 y10))
  | 0 => fun _ _ _ _ _ _ _ _ _ _ _ r h => by simp [madrigalref3_Dec_on.l0] at h
  | k + 1 => by
    have ih0 := madrigalref3_Dec_on.mono_l k
    · intro y0 y1 y2 y3 y4 y5 y6 y7 y8 y9 y10
      unfold madrigalref3_Dec_on.l0
      repeat' first
      | (with_reducible exact ih0 _ _ _ _ _ _ _ _ _ _ _)
      | (with_reducible exact LeO.refl _)
      | (with_reducible exact LeO.none _)
      | (with_reducible refine LeO.ite ?_ ?_)
      | (with_reducible refine LeO.bind ?_ (fun _ => ?_))
      | exact ih0 _ _ _ _ _ _ _ _ _ _ _
      | exact LeO.none _
      | refine LeO.ite ?_ ?_
      | refine LeO.bind ?_ (fun _ => ?_)
theorem madrigalref3_Dec_on.mono : ∀ a0 a1 a2 a3 a4 a5 a6 a7 a8 a9 a10 k, LeO (madrigalref3_Dec_on.f k a0 a1 a2 a3 a4 a5 a6 a7 a8 a9 a10) (madrigalref3_Dec_on.f (k + 1) a0 a1 a2 a3 a4 a5 a6 a7 a8 a9 a10) := by
  intro a0 a1 a2 a3 a4 a5 a6 a7 a8 a9 a10 k
  have ih0 := madrigalref3_Dec_on.mono_l k
  unfold madrigalref3_Dec_on.f
  repeat' first
      | (with_reducible exact ih0 _ _ _ _ _ _ _ _ _ _ _)
      | (with_reducible exact LeO.refl _)
      | (with_reducible exact LeO.none _)
      | (with_reducible refine LeO.ite ?_ ?_)
      | (with_reducible refine LeO.bind ?_ (fun _ => ?_))
      | exact ih0 _ _ _ _ _ _ _ _ _ _ _
      | exact LeO.none _
      | refine LeO.ite ?_ ?_
      | refine LeO.bind ?_ (fun _ => ?_)
-- NOT PRINTED: function 22 (madrigalref3_New)

mutual
def madrigalref1_Good.j0 : Nat → List Int → Bool → Option (Bool)
  | 0, _, _ => none
  | k + 1, x0, x21 => if x21 = true then (some false) else (madrigalref1_Good.l0 k x0 256 0)
def madrigalref1_Good.l0 : Nat → List Int → Int → Int → Option (Bool)
  | 0, _, _, _ => none
  | k + 1, x0, x3, x4 => if x4 < (x0.length : Int) then (if 0 ≤ x4 then (if (rd x0 x4) ≥ x3 then (some false) else (madrigalref1_Good.l0 k x0 (rd x0 x4) (wrap64 (x4 + 1)))) else (none)) else (some true)
end
def madrigalref1_Good.f (k : Nat) (l0 : List Int) : Option (Bool) := if (l0.length : Int) < 1 then (madrigalref1_Good.j0 k l0 true) else (if (l0.length : Int) > 256 then (madrigalref1_Good.j0 k l0 true) else (if 0 ≤ (wrap64 ((l0.length : Int) - 1)) then (if (wrap64 ((l0.length : Int) - 1)) < (l0.length : Int) then (madrigalref1_Good.j0 k l0 ((rd l0 (wrap64 ((l0.length : Int) - 1))) != 0)) else (none)) else (none)))
theorem madrigalref1_Good.mono_l : ∀ k, (∀ y0 y1, LeO (madrigalref1_Good.j0 k y0 y1) (madrigalref1_Good.j0 (k + 1) y0 y1)) ∧ (∀ y0 y1 y2, LeO (madrigalref1_Good.l0 k y0 y1 y2) (madrigalref1_Good.l0 (k + 1) y0 y1 y2))
  | 0 => ⟨fun _ _ r h => by simp [madrigalref1_Good.j0] at h, fun _ _ _ r h => by simp [madrigalref1_Good.l0] at h⟩
  | k + 1 => by
    obtain ⟨ih0, ih1⟩ := madrigalref1_Good.mono_l k
    refine ⟨?_, ?_⟩
    · intro y0 y1
      unfold madrigalref1_Good.j0
      repeat' first
      | (with_reducible exact ih0 _ _)
      | (with_reducible exact ih1 _ _ _)
      | (with_reducible exact LeO.refl _)
      | (with_reducible exact LeO.none _)
      | (with_reducible refine LeO.ite ?_ ?_)
      | (with_reducible refine LeO.bind ?_ (fun _ => ?_))
      | exact ih0 _ _
      | exact ih1 _ _ _
      | exact LeO.none _
      | refine LeO.ite ?_ ?_
      | refine LeO.bind ?_ (fun _ => ?_)
    · intro y0 y1 y2
      unfold madrigalref1_Good.l0
      repeat' first
      | (with_reducible exact ih0 _ _)
      | (with_reducible exact ih1 _ _ _)
      | (with_reducible exact LeO.refl _)
      | (with_reducible exact LeO.none _)
      | (with_reducible refine LeO.ite ?_ ?_)
      | (with_reducible refine LeO.bind ?_ (fun _ => ?_))
      | exact ih0 _ _
      | exact ih1 _ _ _
      | exact LeO.none _
      | refine LeO.ite ?_ ?_
      | refine LeO.bind ?_ (fun _ => ?_)
theorem madrigalref1_Good.mono : ∀ a0 k, LeO (madrigalref1_Good.f k a0) (madrigalref1_Good.f (k + 1) a0) := by
  intro a0 k
  obtain ⟨ih0, ih1⟩ := madrigalref1_Good.mono_l k
  unfold madrigalref1_Good.f
  repeat' first
      | (with_reducible exact ih0 _ _)
      | (with_reducible exact ih1 _ _ _)
      | (with_reducible exact LeO.refl _)
      | (with_reducible exact LeO.none _)
      | (with_reducible refine LeO.ite ?_ ?_)
      | (with_reducible refine LeO.bind ?_ (fun _ => ?_))
      | exact ih0 _ _
      | exact ih1 _ _ _
      | exact LeO.none _
      | refine LeO.ite ?_ ?_
      | refine LeO.bind ?_ (fun _ => ?_)
set_option maxHeartbeats 8000000 in
set_option maxRecDepth 100000 in
theorem madrigalref1_Good.calls (k : Nat) (A0 : Option Addr) (c0 : Nat) (l0 : List Int) (r : Bool) (w : World) (hr0 : Kd.C (Kd.int .i64) w A0 l0.length l0) (hc0 : l0.length ≤ c0) (h : madrigalref1_Good.f k l0 = some r) :
    Calls Try.prog 74 #[.slice A0 l0.length c0] w fun e w' => e = .returned (.bool r) ∧ Drawn0 w w' := by
  have HR0 := Aside0.mk hr0
  have HC0 := Aside0.mk hc0
  clear hr0 hc0
  have H : (if (l0.length : Int) < 1 then (madrigalref1_Good.j0 k l0 true) else (if (l0.length : Int) > 256 then (madrigalref1_Good.j0 k l0 true) else (if 0 ≤ (wrap64 ((l0.length : Int) - 1)) then (if (wrap64 ((l0.length : Int) - 1)) < (l0.length : Int) then (madrigalref1_Good.j0 k l0 ((rd l0 (wrap64 ((l0.length : Int) - 1))) != 0)) else (none)) else (none)))) = some r := h
  clear h
  have HC2 := Aside0.mk H
  clear H
  go_enter Try.func74, Try.ntmps74
  go_upto_region 1 with (fail)
  go_cut [21] (fun v21 wc => ∃ (kq : Nat) (x21_1 : Bool), v21 = .bool x21_1 ∧ Aside0 (madrigalref1_Good.j0 kq l0 x21_1 = some r) ∧ Aside0 (kq ≤ k) ∧ Drawn0 w wc)
  case first =>
    have H := HC2.out
    clear HC2
    by_cases c3 : (l0.length : Int) < 1
    · rw [if_pos c3] at H
      have c3b0 : decide ((l0.length : Int) < 1) = true := decide_eq_true c3
      have c3b1 : decide (l0.length < 1) = true := decide_eq_true (by omega)
      clear c3
      (first | rw [c3b0] | (simp only [i64_w, i32_w]; rw [c3b0]) | skip)
      have H' := Aside0.mk H
      clear H
      go_wp2
      go_meet
      case rel => exact ⟨_, (true), (by first | rfl | (simp; done) | (simp [*]; done)), H', ⟨by first | omega | exact Nat.le_refl _⟩, by repeat (first | exact Drawn0.refl _ | apply Drawn0.step)⟩
    · rw [if_neg c3] at H
      have c3b0 : decide ((l0.length : Int) < 1) = false := decide_eq_false c3
      have c3b1 : decide (l0.length < 1) = false := decide_eq_false (by omega)
      clear c3
      (first | rw [c3b0] | (simp only [i64_w, i32_w]; rw [c3b0]) | skip)
      by_cases c4 : (l0.length : Int) > 256
      · rw [if_pos c4] at H
        have c4b0 : decide (256 < (l0.length : Int)) = true := decide_eq_true c4
        have c4b1 : decide (256 < l0.length) = true := decide_eq_true (by omega)
        clear c4
        have H' := Aside0.mk H
        clear H
        go_wp2
        go_meet
        case rel => exact ⟨_, (true), (by first | rfl | (simp; done) | (simp [*]; done)), H', ⟨by first | omega | exact Nat.le_refl _⟩, by repeat (first | exact Drawn0.refl _ | apply Drawn0.step)⟩
      · rw [if_neg c4] at H
        have c4b0 : decide (256 < (l0.length : Int)) = false := decide_eq_false c4
        have c4b1 : decide (256 < l0.length) = false := decide_eq_false (by omega)
        clear c4
        obtain ⟨ji5, hji5⟩ : ∃ j_ : Int, (wrap64 ((l0.length : Int) - 1)) = j_ := ⟨_, rfl⟩
        replace H : (if 0 ≤ (ji5) then (if (ji5) < (l0.length : Int) then (madrigalref1_Good.j0 k l0 ((rd l0 (ji5)) != 0)) else (none)) else (none)) = some r := by first | (rw [hji5] at H; exact H) | (simp only [hji5] at H ⊢; exact H)
        have hji5w : (IntKind.i64.wrap ((l0.length : Int) - 1)) = ji5 := (i64_w _).trans hji5
        by_cases c6 : 0 ≤ (ji5)
        · rw [if_pos c6] at H
          have c6b0 : decide (0 ≤ (ji5)) = true := decide_eq_true c6
          clear c6
          by_cases c7 : (ji5) < (l0.length : Int)
          · rw [if_pos c7] at H
            have c7b0 : decide ((ji5) < (l0.length : Int)) = true := decide_eq_true c7
            clear c7
            have H' := Aside0.mk H
            clear H
            have p290 : 0 ≤ ((ji5) : Int) := of_decide_eq_true (by first | (with_reducible assumption) | assumption)
            have q290 : (ji5) < (l0.length : Int) := of_decide_eq_true (by first | (with_reducible assumption) | assumption)
            obtain ⟨ad290, e290, hx290_0⟩ := Kd.at_int HR0.out (ji5) p290 q290
            cases e290
            replace p290 := eq_true p290
            replace q290 := eq_true q290
            go_wp2
            go_meet
            case rel => exact ⟨_, (((rd l0 (ji5)) != 0)), (by first | rfl | (simp; done) | (simp only [← hji5] <;> (first | rfl | simp)) | (simp [*]; done)), H', ⟨by first | omega | exact Nat.le_refl _⟩, by repeat (first | exact Drawn0.refl _ | apply Drawn0.step)⟩
          · rw [if_neg c7] at H
            exact absurd H (by simp)
        · rw [if_neg c6] at H
          exact absurd H (by simp)
  case rest =>
    clear HC2
    try clear p2
    try clear q2
    try clear hx2
    try clear c3
    try clear c3b0
    try clear c3b1
    try clear c4
    try clear c4b0
    try clear c4b1
    try clear c6
    try clear c6b0
    try clear p6
    try clear c7
    try clear c7b0
    try clear hx290_0
    try clear p290
    try clear q290
    obtain ⟨kq, x21_1, rfl, HA, HJ1, ⟨mc1, rfl⟩⟩ := hcut
    cases kq with
    | zero => exact absurd HA.out (by simp [madrigalref1_Good.j0])
    | succ kj1 =>
      have H := HA.out
      clear HA
      simp only [madrigalref1_Good.j0] at H
      by_cases c8 : x21_1 = true
      · subst c8
        have H1 : (some false) = some r := by rw [if_pos rfl] at H; exact H
        clear H
        have H := H1
        clear H1
        obtain rfl := Option.some.inj H
        go_wp2
        go_ret
        exact ⟨by first | rfl | (simp; done) | (simp [*]; done), by repeat (first | exact Drawn0.refl _ | apply Drawn0.step)⟩
      · replace c8 := Bool.eq_false_iff.mpr c8
        subst c8
        have H1 : (madrigalref1_Good.l0 kj1 l0 256 0) = some r := by rw [if_neg (show ¬ (false = true) by decide)] at H; exact H
        clear H
        have H := H1
        clear H1
        have H' := Aside0.mk H
        clear H
        go_wp2
        go_loopg [3, 4] kj1 (fun kq v3 v4 w' => ∃ (x3_2 : Int) (x4_2 : Int), v3 = .int .i64 x3_2 ∧ v4 = .int .i64 x4_2 ∧ Aside0 (madrigalref1_Good.l0 kq l0 x3_2 x4_2 = some r) ∧ Aside0 (kq ≤ kj1) ∧ Drawn0 w w')
        case atStart => exact ⟨(256), (0), (by first | rfl | (simp; done) | (simp [*]; done)), (by first | rfl | (simp; done) | (simp [*]; done)), H', ⟨Nat.le_refl _⟩, by repeat (first | exact Drawn0.refl _ | apply Drawn0.step)⟩
        case round =>
          clear H'
          try clear c1
          try clear p2
          try clear q2
          try clear hx2
          try clear c3
          try clear c3b0
          try clear c3b1
          try clear c4
          try clear c4b0
          try clear c4b1
          try clear c6
          try clear c6b0
          try clear p6
          try clear c7
          try clear c7b0
          try clear c8
          try clear hx290_0
          try clear p2
          try clear p290
          try clear p6
          try clear q2
          try clear q290
          obtain ⟨x3_2, x4_2, rfl, rfl, HA, HK2, ⟨m2, rfl⟩⟩ := hrel
          cases gk with
          | zero => exact absurd HA.out (by simp [madrigalref1_Good.l0])
          | succ k2 =>
            have H := HA.out
            clear HA
            simp only [madrigalref1_Good.l0] at H
            by_cases c9 : x4_2 < (l0.length : Int)
            · rw [if_pos c9] at H
              have c9b0 : decide (x4_2 < (l0.length : Int)) = true := decide_eq_true c9
              clear c9
              by_cases c10 : 0 ≤ x4_2
              · rw [if_pos c10] at H
                have c10b0 : decide (0 ≤ x4_2) = true := decide_eq_true c10
                clear c10
                by_cases c11 : (rd l0 x4_2) ≥ x3_2
                · rw [if_pos c11] at H
                  have c11b0 : decide (x3_2 ≤ (rd l0 x4_2)) = true := decide_eq_true c11
                  clear c11
                  obtain rfl := Option.some.inj H
                  have p291 : 0 ≤ (x4_2 : Int) := of_decide_eq_true (by first | (with_reducible assumption) | assumption)
                  have q291 : x4_2 < (l0.length : Int) := of_decide_eq_true (by first | (with_reducible assumption) | assumption)
                  obtain ⟨ad291, e291, hx291_0⟩ := Kd.at_int HR0.out x4_2 p291 q291
                  cases e291
                  replace p291 := eq_true p291
                  replace q291 := eq_true q291
                  go_wp2
                  go_ret
                  exact ⟨by first | rfl | (simp; done) | (simp [*]; done), by repeat (first | exact Drawn0.refl _ | apply Drawn0.step)⟩
                · rw [if_neg c11] at H
                  have c11b0 : decide (x3_2 ≤ (rd l0 x4_2)) = false := decide_eq_false c11
                  clear c11
                  have H' := Aside0.mk H
                  clear H
                  have p291 : 0 ≤ (x4_2 : Int) := of_decide_eq_true (by first | (with_reducible assumption) | assumption)
                  have q291 : x4_2 < (l0.length : Int) := of_decide_eq_true (by first | (with_reducible assumption) | assumption)
                  obtain ⟨ad291, e291, hx291_0⟩ := Kd.at_int HR0.out x4_2 p291 q291
                  cases e291
                  replace p291 := eq_true p291
                  replace q291 := eq_true q291
                  have p292 : 0 ≤ (x4_2 : Int) := of_decide_eq_true (by first | (with_reducible assumption) | assumption)
                  have q292 : x4_2 < (l0.length : Int) := of_decide_eq_true (by first | (with_reducible assumption) | assumption)
                  obtain ⟨ad292, e292, hx292_0⟩ := Kd.at_int HR0.out x4_2 p292 q292
                  obtain rfl : ad291 = ad292 := (by injection e292)
                  replace p292 := eq_true p292
                  replace q292 := eq_true q292
                  go_wp2
                  go_roundg k2
                  case measure => have := HJ1.out; have := HK2.out; omega
                  case rel => exact ⟨(rd l0 x4_2), (wrap64 (x4_2 + 1)), (by first | rfl | (simp; done) | (simp [*]; done)), (by first | rfl | (simp; done) | (simp [*]; done)), H', ⟨by have := HJ1.out; have := HK2.out; omega⟩, by repeat (first | exact Drawn0.refl _ | apply Drawn0.step)⟩
              · rw [if_neg c10] at H
                exact absurd H (by simp)
            · rw [if_neg c9] at H
              have c9b0 : decide (x4_2 < (l0.length : Int)) = false := decide_eq_false c9
              clear c9
              obtain rfl := Option.some.inj H
              go_wp2
              go_ret
              exact ⟨by first | rfl | (simp; done) | (simp [*]; done), by repeat (first | exact Drawn0.refl _ | apply Drawn0.step)⟩

def madrigalref3_Dec_choose.f (s0_0 : List Int) (s0_1 : Int) (s0_2 : Int) (s0_3 : Int) (s0_4 : Int) (s0_5 : Int) (s0_6 : Int) (s0_7 : Int) (s0_8 : Int) (s0_9 : Bool) (s0_10 : Int) (a1 : Int) : Option (Int × Int × Int × Int × Int × Int × Int × Int × Int × Bool × Int) := if a1 = 0 then (none) else (if (IntKind.u64.wrap (Int.tdiv s0_1 a1)) = 0 then (none) else (if (IntKind.u64.wrap ((IntKind.u64.wrap (Int.tdiv s0_2 (IntKind.u64.wrap (Int.tdiv s0_1 a1)))) + 1)) > a1 then (some (IntKind.u64.wrap (a1 - a1), s0_1, s0_2, s0_3, s0_4, s0_5, s0_6, s0_7, s0_8, s0_9, IntKind.u64.wrap (Int.tdiv s0_1 a1))) else (some (IntKind.u64.wrap (a1 - (IntKind.u64.wrap ((IntKind.u64.wrap (Int.tdiv s0_2 (IntKind.u64.wrap (Int.tdiv s0_1 a1)))) + 1))), s0_1, s0_2, s0_3, s0_4, s0_5, s0_6, s0_7, s0_8, s0_9, IntKind.u64.wrap (Int.tdiv s0_1 a1)))))
def madrigalref3_Dec_take.f (k : Nat) (s0_0 : List Int) (s0_1 : Int) (s0_2 : Int) (s0_3 : Int) (s0_4 : Int) (s0_5 : Int) (s0_6 : Int) (s0_7 : Int) (s0_8 : Int) (s0_9 : Bool) (s0_10 : Int) (a1 : Int) (a2 : Int) (a3 : Int) : Option (Int × Int × Int × Int × Int × Int × Int × Int × Bool × Int) := if a1 > 0 then ((madrigalref3_Dec_on.f k s0_0 (IntKind.u64.wrap (s0_10 * (IntKind.u64.wrap (a2 - a1)))) (IntKind.u64.wrap (s0_2 - (IntKind.u64.wrap (s0_10 * (IntKind.u64.wrap (a3 - a2)))))) s0_3 s0_4 s0_5 s0_6 s0_7 s0_8 s0_9 s0_10).bind fun bt293 => (some (bt293.1, bt293.2.1, bt293.2.2.1, bt293.2.2.2.1, bt293.2.2.2.2.1, bt293.2.2.2.2.2.1, bt293.2.2.2.2.2.2.1, bt293.2.2.2.2.2.2.2.1, bt293.2.2.2.2.2.2.2.2.1, bt293.2.2.2.2.2.2.2.2.2))) else ((madrigalref3_Dec_on.f k s0_0 (IntKind.u64.wrap (s0_1 - (IntKind.u64.wrap (s0_10 * (IntKind.u64.wrap (a3 - a2)))))) (IntKind.u64.wrap (s0_2 - (IntKind.u64.wrap (s0_10 * (IntKind.u64.wrap (a3 - a2)))))) s0_3 s0_4 s0_5 s0_6 s0_7 s0_8 s0_9 s0_10).bind fun bt303 => (some (bt303.1, bt303.2.1, bt303.2.2.1, bt303.2.2.2.1, bt303.2.2.2.2.1, bt303.2.2.2.2.2.1, bt303.2.2.2.2.2.2.1, bt303.2.2.2.2.2.2.2.1, bt303.2.2.2.2.2.2.2.2.1, bt303.2.2.2.2.2.2.2.2.2)))
theorem madrigalref3_Dec_take.mono : ∀ a0 a1 a2 a3 a4 a5 a6 a7 a8 a9 a10 a11 a12 a13 k, LeO (madrigalref3_Dec_take.f k a0 a1 a2 a3 a4 a5 a6 a7 a8 a9 a10 a11 a12 a13) (madrigalref3_Dec_take.f (k + 1) a0 a1 a2 a3 a4 a5 a6 a7 a8 a9 a10 a11 a12 a13) := by
  intro a0 a1 a2 a3 a4 a5 a6 a7 a8 a9 a10 a11 a12 a13 k
  unfold madrigalref3_Dec_take.f
  repeat' first
      | (with_reducible exact madrigalref3_Dec_on.mono _ _ _ _ _ _ _ _ _ _ _ _)
      | (with_reducible exact LeO.refl _)
      | (with_reducible exact LeO.none _)
      | (with_reducible refine LeO.ite ?_ ?_)
      | (with_reducible refine LeO.bind ?_ (fun _ => ?_))
      | exact madrigalref3_Dec_on.mono _ _ _ _ _ _ _ _ _ _ _ _
      | exact LeO.none _
      | refine LeO.ite ?_ ?_
      | refine LeO.bind ?_ (fun _ => ?_)
def madrigalref3_Dec_Symbol.l0 : Nat → List Int → Int → Int → Int → List Int → Int → Int → Int → Int → Int → Int → Int → Int → Bool → Int → Option (Int × Int × Int × Int × Int × Int × Int × Int × Int × Bool × Int)
  | 0, _, _, _, _, _, _, _, _, _, _, _, _, _, _, _ => none
  | k + 1, x1, x5, x6, x7, x1000, x1001, x1002, x1003, x1004, x1005, x1006, x1007, x1008, x1009, x1010 => if 0 ≤ x6 then (if x6 < (x1.length : Int) then (if x5 ≥ (IntKind.u64.wrap (wrap64 (256 - (rd x1 x6)))) then (madrigalref3_Dec_Symbol.l0 k x1 x5 (wrap64 (x6 + 1)) (rd x1 x6) x1000 x1001 x1002 x1003 x1004 x1005 x1006 x1007 x1008 x1009 x1010) else ((madrigalref3_Dec_take.f k x1000 x1001 x1002 x1003 x1004 x1005 x1006 x1007 x1008 x1009 x1010 (IntKind.u64.wrap (wrap64 (256 - x7))) (IntKind.u64.wrap (wrap64 (256 - (rd x1 x6)))) 256).bind fun bt328 => (some (x6, bt328.1, bt328.2.1, bt328.2.2.1, bt328.2.2.2.1, bt328.2.2.2.2.1, bt328.2.2.2.2.2.1, bt328.2.2.2.2.2.2.1, bt328.2.2.2.2.2.2.2.1, bt328.2.2.2.2.2.2.2.2.1, bt328.2.2.2.2.2.2.2.2.2)))) else (none)) else (none)
def madrigalref3_Dec_Symbol.f (k : Nat) (s0_0 : List Int) (s0_1 : Int) (s0_2 : Int) (s0_3 : Int) (s0_4 : Int) (s0_5 : Int) (s0_6 : Int) (s0_7 : Int) (s0_8 : Int) (s0_9 : Bool) (s0_10 : Int) (l1 : List Int) : Option (Int × Int × Int × Int × Int × Int × Int × Int × Int × Bool × Int) := (madrigalref1_Good.f k l1).bind fun t313 => (if t313 = true then ((madrigalref3_Dec_choose.f s0_0 s0_1 s0_2 s0_3 s0_4 s0_5 s0_6 s0_7 s0_8 s0_9 s0_10 256).bind fun bt314 => (madrigalref3_Dec_Symbol.l0 k l1 bt314.1 0 256 s0_0 bt314.2.1 bt314.2.2.1 bt314.2.2.2.1 bt314.2.2.2.2.1 bt314.2.2.2.2.2.1 bt314.2.2.2.2.2.2.1 bt314.2.2.2.2.2.2.2.1 bt314.2.2.2.2.2.2.2.2.1 bt314.2.2.2.2.2.2.2.2.2.1 bt314.2.2.2.2.2.2.2.2.2.2)) else (some (0, s0_1, s0_2, s0_3, s0_4, s0_5, s0_6, s0_7, s0_8, s0_9, s0_10)))
theorem madrigalref3_Dec_Symbol.mono_l : ∀ k, (∀ y0 y1 y2 y3 y4 y5 y6 y7 y8 y9 y10 y11 y12 y13 y14, LeO (madrigalref3_Dec_Symbol.l0 k y0 y1 y2 y3 y4 y5 y6 y7 y8 y9 y10 y11 y12 y13 y14) (madrigalref3_Dec_Symbol.l0 (k + 1) y0 y1 y2 y3 y4 y5 y6 y7 y8 y9 y10 y11 y12 y13 y14))
  | 0 => fun _ _ _ _ _ _ _ _ _ _ _ _ _ _ _ r h => by simp [madrigalref3_Dec_Symbol.l0] at h
  | k + 1 => by
    have ih0 := madrigalref3_Dec_Symbol.mono_l k
    · intro y0 y1 y2 y3 y4 y5 y6 y7 y8 y9 y10 y11 y12 y13 y14
      unfold madrigalref3_Dec_Symbol.l0
      repeat' first
      | (with_reducible exact ih0 _ _ _ _ _ _ _ _ _ _ _ _ _ _ _)
      | (with_reducible exact madrigalref1_Good.mono _ _)
      | (with_reducible exact madrigalref3_Dec_take.mono _ _ _ _ _ _ _ _ _ _ _ _ _ _ _)
      | (with_reducible exact LeO.refl _)
      | (with_reducible exact LeO.none _)
      | (with_reducible refine LeO.ite ?_ ?_)
      | (with_reducible refine LeO.bind ?_ (fun _ => ?_))
      | exact ih0 _ _ _ _ _ _ _ _ _ _ _ _ _ _ _
      | exact madrigalref1_Good.mono _ _
      | exact madrigalref3_Dec_take.mono _ _ _ _ _ _ _ _ _ _ _ _ _ _ _
      | exact LeO.none _
      | refine LeO.ite ?_ ?_
      | refine LeO.bind ?_ (fun _ => ?_)
theorem madrigalref3_Dec_Symbol.mono : ∀ a0 a1 a2 a3 a4 a5 a6 a7 a8 a9 a10 a11 k, LeO (madrigalref3_Dec_Symbol.f k a0 a1 a2 a3 a4 a5 a6 a7 a8 a9 a10 a11) (madrigalref3_Dec_Symbol.f (k + 1) a0 a1 a2 a3 a4 a5 a6 a7 a8 a9 a10 a11) := by
  intro a0 a1 a2 a3 a4 a5 a6 a7 a8 a9 a10 a11 k
  have ih0 := madrigalref3_Dec_Symbol.mono_l k
  unfold madrigalref3_Dec_Symbol.f
  repeat' first
      | (with_reducible exact ih0 _ _ _ _ _ _ _ _ _ _ _ _ _ _ _)
      | (with_reducible exact madrigalref1_Good.mono _ _)
      | (with_reducible exact madrigalref3_Dec_take.mono _ _ _ _ _ _ _ _ _ _ _ _ _ _ _)
      | (with_reducible exact LeO.refl _)
      | (with_reducible exact LeO.none _)
      | (with_reducible refine LeO.ite ?_ ?_)
      | (with_reducible refine LeO.bind ?_ (fun _ => ?_))
      | exact ih0 _ _ _ _ _ _ _ _ _ _ _ _ _ _ _
      | exact madrigalref1_Good.mono _ _
      | exact madrigalref3_Dec_take.mono _ _ _ _ _ _ _ _ _ _ _ _ _ _ _
      | exact LeO.none _
      | refine LeO.ite ?_ ?_
      | refine LeO.bind ?_ (fun _ => ?_)
def madrigalref1_Len.l0 : Nat → Int → Int → Option (Int)
  | 0, _, _ => none
  | k + 1, x0, x3 => if x0 > 0 then (madrigalref1_Len.l0 k (wrap64 (Int.tdiv x0 2)) (wrap64 (x3 + 1))) else (some x3)
def madrigalref1_Len.f (k : Nat) (a0 : Int) : Option (Int) := madrigalref1_Len.l0 k a0 0
theorem madrigalref1_Len.mono_l : ∀ k, (∀ y0 y1, LeO (madrigalref1_Len.l0 k y0 y1) (madrigalref1_Len.l0 (k + 1) y0 y1))
  | 0 => fun _ _ r h => by simp [madrigalref1_Len.l0] at h
  | k + 1 => by
    have ih0 := madrigalref1_Len.mono_l k
    · intro y0 y1
      unfold madrigalref1_Len.l0
      repeat' first
      | (with_reducible exact ih0 _ _)
      | (with_reducible exact LeO.refl _)
      | (with_reducible exact LeO.none _)
      | (with_reducible refine LeO.ite ?_ ?_)
      | (with_reducible refine LeO.bind ?_ (fun _ => ?_))
      | exact ih0 _ _
      | exact LeO.none _
      | refine LeO.ite ?_ ?_
      | refine LeO.bind ?_ (fun _ => ?_)
theorem madrigalref1_Len.mono : ∀ a0 k, LeO (madrigalref1_Len.f k a0) (madrigalref1_Len.f (k + 1) a0) := by
  intro a0 k
  have ih0 := madrigalref1_Len.mono_l k
  unfold madrigalref1_Len.f
  repeat' first
      | (with_reducible exact ih0 _ _)
      | (with_reducible exact LeO.refl _)
      | (with_reducible exact LeO.none _)
      | (with_reducible refine LeO.ite ?_ ?_)
      | (with_reducible refine LeO.bind ?_ (fun _ => ?_))
      | exact ih0 _ _
      | exact LeO.none _
      | refine LeO.ite ?_ ?_
      | refine LeO.bind ?_ (fun _ => ?_)
-- NOT PRINTED: function 78 (madrigalref3_Dec_Bits)

-- NOT PRINTED: function 25 (madrigalref3_Dec_Uint)

def madrigalref1_Clamp.j0 : Nat → Int → Int → Int → Bool → Option (Int)
  | 0, _, _, _, _ => none
  | k + 1, x0, x1, x2, x7 => if x7 = true then (some x1) else (if x0 > x2 then (some x2) else (some x0))
def madrigalref1_Clamp.f (k : Nat) (a0 : Int) (a1 : Int) (a2 : Int) : Option (Int) := if a0 < a1 then (madrigalref1_Clamp.j0 k a0 a1 a2 true) else (madrigalref1_Clamp.j0 k a0 a1 a2 (decide (a1 > a2)))
theorem madrigalref1_Clamp.mono_l : ∀ k, (∀ y0 y1 y2 y3, LeO (madrigalref1_Clamp.j0 k y0 y1 y2 y3) (madrigalref1_Clamp.j0 (k + 1) y0 y1 y2 y3))
  | 0 => fun _ _ _ _ r h => by simp [madrigalref1_Clamp.j0] at h
  | k + 1 => by
    have ih0 := madrigalref1_Clamp.mono_l k
    · intro y0 y1 y2 y3
      unfold madrigalref1_Clamp.j0
      repeat' first
      | (with_reducible exact ih0 _ _ _ _)
      | (with_reducible exact LeO.refl _)
      | (with_reducible exact LeO.none _)
      | (with_reducible refine LeO.ite ?_ ?_)
      | (with_reducible refine LeO.bind ?_ (fun _ => ?_))
      | exact ih0 _ _ _ _
      | exact LeO.none _
      | refine LeO.ite ?_ ?_
      | refine LeO.bind ?_ (fun _ => ?_)
theorem madrigalref1_Clamp.mono : ∀ a0 a1 a2 k, LeO (madrigalref1_Clamp.f k a0 a1 a2) (madrigalref1_Clamp.f (k + 1) a0 a1 a2) := by
  intro a0 a1 a2 k
  have ih0 := madrigalref1_Clamp.mono_l k
  unfold madrigalref1_Clamp.f
  repeat' first
      | (with_reducible exact ih0 _ _ _ _)
      | (with_reducible exact LeO.refl _)
      | (with_reducible exact LeO.none _)
      | (with_reducible refine LeO.ite ?_ ?_)
      | (with_reducible refine LeO.bind ?_ (fun _ => ?_))
      | exact ih0 _ _ _ _
      | exact LeO.none _
      | refine LeO.ite ?_ ?_
      | refine LeO.bind ?_ (fun _ => ?_)
set_option maxHeartbeats 8000000 in
set_option maxRecDepth 100000 in
theorem madrigalref1_Clamp.calls (k : Nat) (a0 : Int) (a1 : Int) (a2 : Int) (r : Int) (w : World) (h : madrigalref1_Clamp.f k a0 a1 a2 = some r) :
    Calls Try.prog 27 #[.int .i64 a0, .int .i64 a1, .int .i64 a2] w fun e w' => e = .returned (.int .i64 r) ∧ Drawn0 w w' := by
  have H : (if a0 < a1 then (madrigalref1_Clamp.j0 k a0 a1 a2 true) else (madrigalref1_Clamp.j0 k a0 a1 a2 (decide (a1 > a2)))) = some r := h
  clear h
  have HC4 := Aside0.mk H
  clear H
  go_enter Try.func27, Try.ntmps27
  go_upto_region 1 with (fail)
  go_cut [7] (fun v7 wc => ∃ (kq : Nat) (x7_3 : Bool), v7 = .bool x7_3 ∧ Aside0 (madrigalref1_Clamp.j0 kq a0 a1 a2 x7_3 = some r) ∧ Aside0 (kq ≤ k) ∧ Drawn0 w wc)
  case first =>
    have H := HC4.out
    clear HC4
    by_cases c5 : a0 < a1
    · rw [if_pos c5] at H
      have c5b0 : decide (a0 < a1) = true := decide_eq_true c5
      clear c5
      (first | rw [c5b0] | (simp only [i64_w, i32_w]; rw [c5b0]) | skip)
      have H' := Aside0.mk H
      clear H
      go_wp2
      go_meet
      case rel => exact ⟨_, (true), (by first | rfl | (simp; done) | (simp [*]; done)), H', ⟨by first | omega | exact Nat.le_refl _⟩, by repeat (first | exact Drawn0.refl _ | apply Drawn0.step)⟩
    · rw [if_neg c5] at H
      have c5b0 : decide (a0 < a1) = false := decide_eq_false c5
      clear c5
      (first | rw [c5b0] | (simp only [i64_w, i32_w]; rw [c5b0]) | skip)
      have H' := Aside0.mk H
      clear H
      go_wp2
      go_meet
      case rel => exact ⟨_, (decide (a1 > a2)), (by first | rfl | (simp; done) | (simp [*]; done)), H', ⟨by first | omega | exact Nat.le_refl _⟩, by repeat (first | exact Drawn0.refl _ | apply Drawn0.step)⟩
  case rest =>
    clear HC4
    try clear c2
    try clear p2
    try clear c5
    try clear c5b0
    obtain ⟨kq, x7_3, rfl, HA, HJ3, ⟨mc3, rfl⟩⟩ := hcut
    cases kq with
    | zero => exact absurd HA.out (by simp [madrigalref1_Clamp.j0])
    | succ kj3 =>
      have H := HA.out
      clear HA
      simp only [madrigalref1_Clamp.j0] at H
      by_cases c6 : x7_3 = true
      · subst c6
        have H1 : (some a1) = some r := by rw [if_pos rfl] at H; exact H
        clear H
        have H := H1
        clear H1
        obtain rfl := Option.some.inj H
        go_wp2
        go_ret
        exact ⟨by first | rfl | (simp; done) | (simp [*]; done), by repeat (first | exact Drawn0.refl _ | apply Drawn0.step)⟩
      · replace c6 := Bool.eq_false_iff.mpr c6
        subst c6
        have H1 : (if a0 > a2 then (some a2) else (some a0)) = some r := by rw [if_neg (show ¬ (false = true) by decide)] at H; exact H
        clear H
        have H := H1
        clear H1
        by_cases c7 : a0 > a2
        · rw [if_pos c7] at H
          have c7b0 : decide (a2 < a0) = true := decide_eq_true c7
          clear c7
          obtain rfl := Option.some.inj H
          go_wp2
          go_ret
          exact ⟨by first | rfl | (simp; done) | (simp [*]; done), by repeat (first | exact Drawn0.refl _ | apply Drawn0.step)⟩
        · rw [if_neg c7] at H
          have c7b0 : decide (a2 < a0) = false := decide_eq_false c7
          clear c7
          obtain rfl := Option.some.inj H
          go_wp2
          go_ret
          exact ⟨by first | rfl | (simp; done) | (simp [*]; done), by repeat (first | exact Drawn0.refl _ | apply Drawn0.step)⟩

end Go.Proofs.Ytiabenmgbikllaa.PAll

-- E5
namespace Go.Proofs.Ytiabenmgbikllaa.M
open Go.RowKit Go.Proofs.YtiabenmgbikllaaW.PrintWords Go.Proofs.YtiabenmgbikllaaW.PrintLast Go.Proofs.YtiabenmgbikllaaW.PrintMore
attribute [local go_sem] max2_int min2_int max_two min_two max_three min_three max_four min_four

set_option maxHeartbeats 1000000 in
set_option maxRecDepth 100000 in
theorem clone_calls (w : World) (v : Value) (xs : List Int) (h : Rd w .u8 v xs) (hn : xs.length ≤ 140737488355328) :
    Calls Try.prog 69 #[v] w fun r w' => ∃ v1, r = .returned v1 ∧ w'.ownsRow 0 5 1 v1 xs.length (nums .u8 xs) ∧ Chg w w' No ∧ Ge w.heap.size (blkOf v1) := by
  rcases h with ⟨rfl, rfl⟩ | ⟨ad, c, rfl, hc, hr⟩
  · have he := fun w : World => run_eql_slice_nil (P := Try.prog) w 26 5 none 0 0 Try.underlying26
    go_enter Try.func69, Try.ntmps69
    go_wp2
    go_returns
    exact ⟨_, rfl, own_nil _ _ _ _, Chg.refl w No, fun k hk => by cases hk⟩
  · have he := fun w : World => run_eql_slice_nil (P := Try.prog) w 26 5 (some ad) xs.length c Try.underlying26
    have HR := Aside0.mk hr
    clear hr
    go_enter Try.func69, Try.ntmps69
    go_wp2_with (at_builtin; refine appRow rfl (.tmp 5) (.tmp 6) 26 5 .u8 1 rfl Try.underlying26 info5 (by omega) (.slice (some ⟨w.heap.size, 0, none⟩) 0 0) [] xs _ _ c rfl rfl (own_lit _ _ _ _ _ (Nat.zero_le _) (by simp)) (HR.out.below (below_alloc (Below.refl _ _) _)) (by simp; omega) ?_; intro v1 w1 ho hch hx)
    have HO : Aside0 (w1.ownsRow 0 5 1 v1 xs.length (nums .u8 xs) ∧ Chg w w1 No ∧ Ge w.heap.size (blkOf v1)) := by
      refine ⟨ho, ((Chg.refl w No).alloc _).trans hch (fun b hb => .inr ?_), fun b hb => ?_⟩
      · have : w.heap.size = b := by simpa [blkOf, Value.ownBlock] using hb
        omega
      · rcases hx b hb with hh | hh
        · have : w.heap.size = b := by simpa [blkOf, Value.ownBlock] using hh
          omega
        · simp at hh; omega
    clear ho hch hx
    go_wp2
    go_returns
    exact ⟨v1, rfl, HO.out⟩
end Go.Proofs.Ytiabenmgbikllaa.M

-- Shelf
/-
  DERIVED: THE SHELF's CONTRACTS AT THIS DUMP, IN PLAIN WORDS (tools/lay-plain.mjs out of 'TryShelf.lean', which tools/lay-shelf.mjs wrote): THE SAME DECLARATIONS UNDER THE SAME NAMES: 'import', 'namespace', 'open', 'def', 'theorem' AND NOTHING ELSE: no command of the shelf's: FOR A HAND-IN. Each laying: the table of numbers ('.._ren') and one theorem, a field a fact of the dump's own or the kernel's comparison; each contract: ONE APPLICATION.
-/
namespace Go.Proofs
open Go.Shelf
def Try.lays125_ren : Go.Shelf.Ren := ⟨fun | 125 => 124 | 128 => 146 | 129 => 82 | n => n, fun | 46 => 93 | 3 => 3 | 51 => 63 | 53 => 89 | 4 => 4 | 5 => 5 | 9 => 9 | n => n, fun | n => n⟩
theorem Try.lays125 : Go.Proofs.Lays.n125 Try.prog Try.lays125_ren := {
  mixed := by kernel_rfl
  f125 := Try.func124.trans (congrArg some (by kernel_rfl))
  f128 := Try.func146.trans (congrArg some (by kernel_rfl))
  f129 := Try.func82.trans (congrArg some (by kernel_rfl))
  t3 := Try.underlying3
  a3 := Try.isAgg3
  z3 := Try.sizeOf3
  v3 := Try.zeroValue3
  t4 := Try.underlying4
  a4 := Try.isAgg4
  z4 := Try.sizeOf4
  v4 := Try.zeroValue4
  t5 := Try.underlying5
  a5 := Try.isAgg5
  z5 := Try.sizeOf5
  v5 := Try.zeroValue5
  t9 := Try.underlying9
  a9 := Try.isAgg9
  z9 := Try.sizeOf9
  v9 := Try.zeroValue9
  t46 := Try.underlying93
  a46 := Try.isAgg93
  z46 := Try.sizeOf93
  v46 := Try.zeroValue93
  t51 := Try.underlying63
  a51 := Try.isAgg63
  z51 := Try.sizeOf63
  v51 := Try.zeroValue63
  t53 := Try.underlying89
  a53 := Try.isAgg89
  z53 := Try.sizeOf89
  v53 := Try.zeroValue89 }
/-- bits.Len: "Len returns the minimum number of bits required to represent x; the result is 0 for x == 0.": IT RETURNS 'Lib.bitLen x'; the world is as it was. (A uint has 64 bits in the model.) ITS CALLEE bits.Len64 IS MET BY ITS OWN CONTRACT OFF THE SHELF (lay that first). (LAID: no walk: one application.) -/
theorem Try.bits_Len (x : Int) (w : World) (h0 : 0 ≤ x) (h1 : x ≤ 18446744073709551615) :
    Calls Try.prog 124 #[.int .u64 x] w fun e w' => e = .returned (.int .i64 (Lib.bitLen x.toNat)) ∧ w' = w := Any.bits_Len Try.lays125 x w h0 h1
def Try.lays129_ren : Go.Shelf.Ren := ⟨fun | 129 => 82 | n => n, fun | 53 => 89 | 3 => 3 | 4 => 4 | 46 => 93 | 5 => 5 | 9 => 9 | n => n, fun | n => n⟩
theorem Try.lays129 : Go.Proofs.Lays.n129 Try.prog Try.lays129_ren := {
  mixed := by kernel_rfl
  f129 := Try.func82.trans (congrArg some (by kernel_rfl))
  t3 := Try.underlying3
  a3 := Try.isAgg3
  z3 := Try.sizeOf3
  v3 := Try.zeroValue3
  t4 := Try.underlying4
  a4 := Try.isAgg4
  z4 := Try.sizeOf4
  v4 := Try.zeroValue4
  t5 := Try.underlying5
  a5 := Try.isAgg5
  z5 := Try.sizeOf5
  v5 := Try.zeroValue5
  t9 := Try.underlying9
  a9 := Try.isAgg9
  z9 := Try.sizeOf9
  v9 := Try.zeroValue9
  t46 := Try.underlying93
  a46 := Try.isAgg93
  z46 := Try.sizeOf93
  v46 := Try.zeroValue93
  t53 := Try.underlying89
  a53 := Try.isAgg89
  z53 := Try.sizeOf89
  v53 := Try.zeroValue89 }
/-- bits.Len64: "Len64 returns the minimum number of bits required to represent x; the result is 0 for x == 0.": IT RETURNS 'Lib.bitLen x'; the world is as it was. ('h0', 'h1': x is a uint64.) (LAID: no walk: one application.) -/
theorem Try.bits_Len64 (x : Int) (w : World) (h0 : 0 ≤ x) (h1 : x ≤ 18446744073709551615) :
    Calls Try.prog 82 #[.int .u64 x] w fun e w' => e = .returned (.int .i64 (Lib.bitLen x.toNat)) ∧ w' = w := Any.bits_Len64 Try.lays129 x w h0 h1
end Go.Proofs

-- E4
namespace Go.Proofs.Ytiabenmgbikllaa.M
open Go.RowKit Go.Proofs.YtiabenmgbikllaaW.PrintWords Go.Proofs.YtiabenmgbikllaaW.PrintLast Go.Proofs.YtiabenmgbikllaaW.PrintMore Go.Proofs.Ytiabenmgbikllaa.PAll
attribute [local go_sem] max2_int min2_int max_two min_two max_three min_three max_four min_four

/-- A writer at first. -/
def E.new : E := ⟨[], 0, 2147483648, [], 0, 33⟩
theorem EOk.new : EOk E.new := ⟨by decide, by decide, by decide, by decide, by decide, by decide, by decide⟩
/-- One block. -/
def One (g : Nat) : Nat → Prop := fun b => b = g

set_option maxHeartbeats 1000000 in
set_option maxRecDepth 100000 in
theorem enew_calls (w : World) :
    Calls Try.prog 38 #[] w fun r w' => r = .returned (.pointer (some ⟨w.heap.size, 0, none⟩)) ∧ EncAt w' (One w.heap.size) w.heap.size E.new ∧ Chg w w' No := by
  go_enter Try.func38, Try.ntmps38
  go_wp2
  go_returns
  refine ⟨rfl, ⟨.slice none 0 0, .slice none 0 0, heap_alloc_new _ _, own_nil _ _ _ _, own_nil _ _ _ _, ne_nil _, rfl, (fun k hk => by cases hk), (fun k hk => by cases hk), ?_⟩, (Chg.refl w No).alloc _⟩
  intro b hb
  rw [hb]
  exact blk_lt (heap_alloc_new w _)

def E.uint (e : E) (v ft : Int) : E := if ft = 1 then e else e.take v (v + 1) ft

set_option maxHeartbeats 1000000 in
set_option maxRecDepth 100000 in
theorem euint_calls (w : World) (f : Nat → Prop) (g : Nat) (e : E) (v ft : Int) (h : EncAt w f g e) (hk : EOk e) (h0 : 0 ≤ v) (h1 : v < ft) (h2 : ft ≤ 256) :
    Calls Try.prog 119 #[.pointer (some ⟨g, 0, none⟩), .int .i64 v, .int .i64 ft] w fun r w' => r = .returned (.int .i64 0) ∧ ∃ f', EncAt w' f' g (e.uint v ft) ∧ Chg w w' f ∧ Ext w f f' := by
  by_cases h3 : ft = 1
  · have HF : Aside0 (∃ f', EncAt w f' g (e.uint v ft) ∧ Chg w w f ∧ Ext w f f') := ⟨⟨f, by rw [E.uint, if_pos h3]; exact h, Chg.refl w f, Ext.refl w f⟩⟩
    clear h hk
    subst h3
    go_enter Try.func119, Try.ntmps119
    go_wp2
    go_returns
    exact ⟨rfl, HF.out⟩
  · have HE : Aside0 (e.uint v ft = e.take v (v + 1) ft) := ⟨by rw [E.uint, if_neg h3]⟩
    have HH := Aside0.mk (And.intro h hk)
    clear h hk
    have h4 : (ft == 1) = false := by simpa using h3
    have w1 : IntKind.u64.wrap v = v := wraps_u64 _ (by omega) (by omega)
    have w2 : IntKind.u64.wrap (v + 1) = v + 1 := wraps_u64 _ (by omega) (by omega)
    have w3 : IntKind.u64.wrap ft = ft := wraps_u64 _ (by omega) (by omega)
    go_enter Try.func119, Try.ntmps119
    go_wp2_with fail
    refine (etake_calls _ f g e v (v + 1) ft HH.out.1 HH.out.2 h0 (by omega) (by omega) (by omega)).mono ?_
    rintro r w1 ⟨rfl, f', hE, hch, hxt⟩
    have HF : Aside0 (∃ f', EncAt w1 f' g (e.uint v ft) ∧ Chg w w1 f ∧ Ext w f f') := ⟨⟨f', by rw [HE.out]; exact hE, hch, hxt⟩⟩
    clear hE hch hxt
    go_wp2
    go_returns
    exact ⟨rfl, HF.out⟩

def E.tell (e : E) : Int := e.count - (Lib.bitLen e.rng.toNat : Int)
theorem bitLenAux_le : ∀ n x, Lib.bitLenAux n x ≤ n
  | 0, _ => Nat.le_refl _
  | n + 1, x => by
    have := bitLenAux_le n (x / 2)
    simp only [Lib.bitLenAux]
    split <;> omega
theorem bitLen_le (x : Nat) : Lib.bitLen x ≤ 64 := bitLenAux_le 64 x

set_option maxHeartbeats 1000000 in
set_option maxRecDepth 100000 in
theorem etell_calls (w : World) (f : Nat → Prop) (g : Nat) (e : E) (h : EncAt w f g e) (hk : EOk e) :
    Calls Try.prog 41 #[.pointer (some ⟨g, 0, none⟩)] w fun r w' => r = .returned (.int .i64 e.tell) ∧ ∃ n, w' = w.drewN n := by
  obtain ⟨vt, vr, h⟩ := h
  obtain ⟨r1, r2, v0, v1, hn, c0, c1⟩ := hk
  have k5 := h.c5
  have k2 := h.c2
  have hl := bitLen_le e.rng.toNat
  clear h
  go_enter Try.func41, Try.ntmps41
  go_wp2_with fail
  go_quiet ((go_at_call 82; exact Calls.quiet_of_same (Try.bits_Len64 e.rng _ (by omega) (by omega))))
  go_wp2
  go_returns
  exact ⟨rfl, _, rfl⟩
end Go.Proofs.Ytiabenmgbikllaa.M

-- D2
namespace Go.Proofs.Ytiabenmgbikllaa.M
set_option linter.unusedVariables false
open Go.RowKit Go.Proofs.YtiabenmgbikllaaW.PrintWords Go.Proofs.YtiabenmgbikllaaW.PrintLast Go.Proofs.YtiabenmgbikllaaW.PrintMore Go.Proofs.Ytiabenmgbikllaa.PAll
attribute [local go_sem] max2_int min2_int max_two min_two max_three min_three max_four min_four

/-- A reader lies in block g; its bytes lay in the world w0 already, of which nothing has changed. -/
def DecAt (w0 w : World) (g : Nat) (d : D) : Prop := IsS91 w0 w g d.b d.rng d.val d.last d.front d.back d.window d.waiting d.count d.bad ∧ Below w0.heap.size w0 w
theorem DecAt.ge {w0 w : World} {g : Nat} {d : D} (h : DecAt w0 w g d) : w0.heap.size ≤ g := h.1.ge
theorem DecAt.lt {w0 w : World} {g : Nat} {d : D} (h : DecAt w0 w g d) : g < w.heap.size := h.1.lt
theorem DecAt.chg {w0 w w1 : World} {g : Nat} {d : D} {S : Nat → Prop} (h : DecAt w0 w g d) (k : Chg w w1 S) (hg : ¬ S g) (hS : Ge w0.heap.size S) : DecAt w0 w1 g d := by
  obtain ⟨⟨A, c, hb, hge, hr⟩, hB⟩ := h
  exact ⟨⟨A, c, k.blk hb hg, hge, hr⟩, hB.trans (k.below hS hB.size)⟩
/-- What a printed contract of the reader gives. -/
theorem DecAt.of {w0 w w1 : World} {g : Nat} {d : D} (h : DecAt w0 w g d) (d' : D) (hb : d'.b = d.b) (hi : IsS91 w0 w1 g d.b d'.rng d'.val d'.last d'.front d'.back d'.window d'.waiting d'.count d'.bad) (hB : Below w0.heap.size w0 w1) (hk : KeepBut w w1 g none) :
    DecAt w0 w1 g d' ∧ Chg w w1 (One g) := ⟨⟨by rw [hb]; exact hi, hB⟩, Chg.of_keep h.2 hB hk⟩

theorem dsym_calls (w0 w : World) (g : Nat) (d : D) (t : List Int) (A : Option Addr) (c : Nat) (h : DecAt w0 w g d) (hd : DOk d) (ht : TabOk t) (hn : 0 < t.length) (hr : ReadsInt w .i64 A t.length t) (hc : t.length ≤ c)
    (hf : ∀ ad, A = some ad → ad.block ≠ g) (hk : d.count ≤ 900000000000000000) :
    Calls Try.prog 87 #[.pointer (some ⟨g, 0, none⟩), .slice A t.length c] w fun r w' => r = .returned (.int .i64 (d.symV t)) ∧ DecAt w0 w' g (d.sym t) ∧ Chg w w' (One g) :=
  (rc_Dec_Symbol.calls 300 g d.b d.rng d.val d.last d.front d.back d.window d.waiting d.count d.bad A c t _ _ _ _ _ _ _ _ _ _ w0 w h.1 h.2 (Kd.C_of_reads (d := 0) (readsInt_of.1 hr)) hc (fun ad ha _ => hf ad ha) (sym_f d hd t ht hn hk)).mono
    fun r w' ⟨h1, h2, h3, h4⟩ => ⟨h1, (h.of (d.sym t) (sym_ok d hd t ht hn hk).2.2.1 h2 h3 h4).1, (h.of (d.sym t) (sym_ok d hd t ht hn hk).2.2.1 h2 h3 h4).2⟩
theorem dchoose_calls (w0 w : World) (g : Nat) (d : D) (ft : Int) (h : DecAt w0 w g d) (hd : DOk d) (f0 : 1 ≤ ft) (f1 : ft ≤ 32768) :
    Calls Try.prog 122 #[.pointer (some ⟨g, 0, none⟩), .int .u64 ft] w fun r w' => r = .returned (.int .u64 (d.choose ft)) ∧ DecAt w0 w' g d ∧ Chg w w' (One g) :=
  (rc_Dec_choose.calls g d.b d.rng d.val d.last d.front d.back d.window d.waiting d.count d.bad ft _ _ _ _ _ _ _ _ _ _ w0 w h.1 h.2 (choose_f d hd ft f0 f1)).mono
    fun r w' ⟨h1, h2, h3, h4⟩ => ⟨h1, (h.of d rfl h2 h3 h4).1, (h.of d rfl h2 h3 h4).2⟩
theorem dtake_calls (w0 w : World) (g : Nat) (d : D) (fl fh ft : Int) (h : DecAt w0 w g d) (hd : DOk d) (hp : InPlace d fl fh ft) (hk : d.count ≤ 900000000000000000) :
    Calls Try.prog 123 #[.pointer (some ⟨g, 0, none⟩), .int .u64 fl, .int .u64 fh, .int .u64 ft] w fun r w' => r = .returned (.tuple #[]) ∧ DecAt w0 w' g (d.take fl fh ft) ∧ Chg w w' (One g) :=
  (rc_Dec_take.calls 4 g d.b d.rng d.val d.last d.front d.back d.window d.waiting d.count d.bad fl fh ft _ _ _ _ _ _ _ _ _ w0 w h.1 h.2 (take_f d hd fl fh ft hp hk 4 (by omega))).mono
    fun r w' ⟨h1, h2, h3, h4⟩ => ⟨h1, (h.of (d.take fl fh ft) (take_ok d hd fl fh ft hp hk).2.2 h2 h3 h4).1, (h.of (d.take fl fh ft) (take_ok d hd fl fh ft hp hk).2.2 h2 h3 h4).2⟩

/-- A small number. -/
def D.small (d : D) (ft : Int) : D := d.take (d.choose ft) (d.choose ft + 1) ft
theorem small_place (d : D) (h : DOk d) (ft : Int) (f0 : 1 ≤ ft) (f1 : ft ≤ 32768) : InPlace d (d.choose ft) (d.choose ft + 1) ft := by
  obtain ⟨p1, _⟩ := take_facts d.rng ft 0 ft h.r1 h.r2 (by omega) (by omega) (by omega) f1
  have hf := choose_range d.val (d.rng / ft) ft p1 h.v0 f0
  have h1 : 0 ≤ d.choose ft := hf.1
  have h2 : d.choose ft < ft := hf.2
  exact ⟨h1, by omega, by omega, f1, by omega, by omega⟩

set_option maxHeartbeats 1000000 in
set_option maxRecDepth 100000 in
theorem dsmall_calls (w0 w : World) (g : Nat) (d : D) (ft : Int) (h : DecAt w0 w g d) (hd : DOk d) (f0 : 2 ≤ ft) (f1 : ft ≤ 256) (hk : d.count ≤ 900000000000000000) :
    Calls Try.prog 81 #[.pointer (some ⟨g, 0, none⟩), .int .i64 ft] w fun r w' => r = .returned (.int .i64 (d.choose ft)) ∧ DecAt w0 w' g (d.small ft) ∧ Chg w w' (One g) := by
  have hp := small_place d hd ft (by omega) (by omega)
  have HH := Aside0.mk (And.intro h (And.intro hd hp))
  have w1 : IntKind.u64.wrap ft = ft := wraps_u64 _ (by omega) (by omega)
  obtain ⟨c0, c1, c2, _, _, _⟩ := hp
  have w2 : IntKind.u64.wrap (d.choose ft + 1) = d.choose ft + 1 := wraps_u64 _ (by omega) (by omega)
  clear h hd
  go_enter Try.func81, Try.ntmps81
  go_wp2_with (first
    | (go_at_call 122; refine (dchoose_calls w0 w g d ft HH.out.1 HH.out.2.1 (by omega) (by omega)).mono ?_; rintro r w1 ⟨rfl, h1, k1⟩; have H1 := Aside0.mk (And.intro h1 k1); clear h1 k1)
    | (go_at_call 123; refine (dtake_calls w0 _ g d (d.choose ft) (d.choose ft + 1) ft H1.out.1 HH.out.2.1 HH.out.2.2 hk).mono ?_; rintro r w2 ⟨rfl, h2, k2⟩; have H2 := Aside0.mk (And.intro h2 k2); clear h2 k2))
  go_returns
  exact ⟨rfl, H2.out.1, H1.out.2.trans H2.out.2 (Ext.refl _ _)⟩
end Go.Proofs.Ytiabenmgbikllaa.M

-- D3
namespace Go.Proofs.Ytiabenmgbikllaa.M
set_option linter.unusedVariables false
open Go.RowKit Go.Proofs.YtiabenmgbikllaaW.PrintWords Go.Proofs.YtiabenmgbikllaaW.PrintLast Go.Proofs.YtiabenmgbikllaaW.PrintMore Go.Proofs.Ytiabenmgbikllaa.PAll
attribute [local go_sem] max2_int min2_int max_two min_two max_three min_three max_four min_four

/-- A reader ahead of its first byte. -/
def D.zero (b : List Int) : D := ⟨b, 128, 0, 0, 0, 0, 0, 0, 9, false⟩
def D.first (b : List Int) : D := { D.zero b with val := 127 - (D.zero b).nextV / 2, last := (D.zero b).nextV, front := (D.zero b).nextF }
def D.new (b : List Int) : D := (D.first b).norm
theorem zero_base (b : List Int) (hb : Bytes b) (hn : b.length ≤ 140737488355328) : DBase (D.zero b) :=
  ⟨hb, hn, by show (0:Int) ≤ 0; omega, by show (0:Int) < 256; omega, by show (0:Int) ≤ 0; omega, by show (0:Int) ≤ b.length; omega, by show _ ≤ (9:Int); omega, by show (9:Int) ≤ _; omega⟩
theorem first_base (b : List Int) (hb : Bytes b) (hn : b.length ≤ 140737488355328) : DBase (D.first b) := by
  have hv := (D.zero b).nextV_range (zero_base b hb hn)
  have hf : 0 ≤ (D.zero b).nextF ∧ (D.zero b).nextF ≤ b.length := by
    unfold D.nextF
    have e1 : (D.zero b).front = 0 := rfl
    have e2 : (D.zero b).b = b := rfl
    rw [e1, e2]
    split <;> omega
  exact ⟨hb, hn, hv.1, hv.2, hf.1, hf.2, by show _ ≤ (9:Int); omega, by show (9:Int) ≤ _; omega⟩
theorem new_ok (b : List Int) (hb : Bytes b) (hn : b.length ≤ 140737488355328) : DOk (D.new b) ∧ (D.new b).count ≤ 33 ∧ (D.new b).b = b := by
  have hv := (D.zero b).nextV_range (zero_base b hb hn)
  have er : (D.first b).rng = 128 := rfl
  have ev : (D.first b).val = 127 - (D.zero b).nextV / 2 := rfl
  have ec : (D.first b).count = 9 := rfl
  obtain ⟨i1, i2, i3, i4, i5, i6, i7⟩ := normL_ok 3 (D.first b) (first_base b hb hn) (by omega) (by omega) (by omega) (by omega) (by omega) (by omega)
  refine ⟨⟨i1, i2, i3, i4, i5, ?_, ?_⟩, ?_, ?_⟩
  · show 0 ≤ (D.normL 3 (D.first b)).count; omega
  · show (D.normL 3 (D.first b)).count ≤ _; omega
  · show (D.normL 3 (D.first b)).count ≤ _; omega
  · have : ∀ j e, (D.normL j e).b = e.b := by
      intro j
      induction j with
      | zero => intro e; rfl
      | succ j ih => intro e; show (if _ then _ else _ : D).b = _; split <;> first | (rw [ih]; rfl) | rfl
    exact this 3 _

set_option maxHeartbeats 1000000 in
set_option maxRecDepth 100000 in
theorem dnew_calls (w : World) (v : Value) (b : List Int) (h : Rd w .u8 v b) (hb : Bytes b) (hn : b.length ≤ 140737488351232) :
    Calls Try.prog 21 #[v] w fun r w' => ∃ w0 g, r = .returned (.pointer (some ⟨g, 0, none⟩)) ∧ DecAt w0 w' g (D.new b) ∧ Chg w w' No ∧ w.heap.size ≤ w0.heap.size := by
  have HR := Aside0.mk h
  clear h
  go_enter Try.func21, Try.ntmps21
  go_wp2_with (go_at_call 69; refine (clone_calls w v b HR.out (by omega)).mono ?_; rintro r w1 ⟨va, rfl, ho, hch, hge⟩; obtain ⟨A, c, rfl⟩ := own_slice ho; have HO := Aside0.mk (And.intro ho (And.intro hch hge)); clear ho hch hge)
  have HZ := Aside0.mk (zero_base b hb (by omega))
  have HF := Aside0.mk (first_base b hb (by omega))
  have HN := Aside0.mk (new_ok b hb (by omega))
  obtain ⟨x0, x1⟩ := (D.zero b).nextV_range HZ.out
  clear hb
  have HA : Aside0 (DecAt w1 (w1.alloc (.cells #[.slice A b.length c, .int .u64 128, .int .u64 0, .int .u64 0, .int .i64 0, .int .i64 0, .int .u64 0, .int .i64 0, .int .i64 9, .bool false] 91)) w1.heap.size (D.zero b)) :=
    ⟨⟨IsS91.new w1 w1 A c b 128 0 0 0 0 0 0 9 false (Below.refl _ _) (Kd.C_of_reads (d := 0) (readsInt_of.1 (own_reads' HO.out.1))), below_alloc (Below.refl _ _) _⟩⟩
  refine (rc_Dec_next.calls w1.heap.size b 128 0 0 0 0 0 0 9 false _ _ _ _ _ _ _ _ _ _ w1 _ HA.out.1 HA.out.2 (next_f (D.zero b) HZ.out 128 9)).mono ?_
  rintro r w2 ⟨rfl, h1, h2, h3⟩
  have h1' : DecAt w1 w2 w1.heap.size { D.zero b with front := (D.zero b).nextF } := ⟨h1, h2⟩
  obtain ⟨A2, c2, hb2, _, hr2⟩ := h1
  have q3 := cellS91_3 hb2
  have q2 := cellS91_2 hb2
  have z3 := blk_frozen hb2 3
  have z2 := blk_frozen hb2 2
  have H2 := Aside0.mk (And.intro h1' h3)
  clear h1' h2 h3 hb2 hr2
  go_wp2_with fail
  have H3 : Aside0 (DecAt w1 ((w2.setCell ⟨w1.heap.size, 3, none⟩ (.int .u64 (D.zero b).nextV)).setCell ⟨w1.heap.size, 2, none⟩ (.int .u64 (127 - (D.zero b).nextV / 2))) w1.heap.size (D.first b)) := by
    obtain ⟨⟨k1, k2⟩, k3⟩ := H2.out
    exact ⟨⟨(k1.set_3 _).set_2 _, (k2.setCell (Nat.le_refl _) _).setCell (Nat.le_refl _) _⟩⟩
  refine (rc_Dec_normalise.calls 4 w1.heap.size b _ _ _ _ _ _ _ _ _ _ _ _ _ _ _ _ _ _ w1 _ H3.out.1 H3.out.2 (norm_l 3 4 (D.first b) HF.out ?_ ?_ ?_ ?_ ?_ ?_ ?_)).mono ?_
  · show (9 : Int) + 8 * 3 ≤ _; omega
  · show (1 : Int) ≤ 128; omega
  · show (128 : Int) ≤ _; omega
  · show 0 ≤ 127 - (D.zero b).nextV / 2; omega
  · show 127 - (D.zero b).nextV / 2 < _; omega
  · show (8388608 : Int) < 128 * 256 ^ 3; omega
  · omega
  rintro r w3 ⟨rfl, h1, h2, h3⟩
  have H4 : Aside0 (DecAt w1 w3 w1.heap.size (D.new b) ∧ Chg w w3 No ∧ w.heap.size ≤ w1.heap.size) :=
    ⟨⟨by rw [HN.out.2.2]; exact h1, h2⟩, HO.out.2.1.trans (Chg.of_below h2 No) (Ext.refl _ _), HO.out.2.1.size⟩
  clear h1 h2 h3
  go_wp2_with fail
  go_returns
  exact ⟨w1, w1.heap.size, rfl, H4.out⟩

end Go.Proofs.Ytiabenmgbikllaa.M
