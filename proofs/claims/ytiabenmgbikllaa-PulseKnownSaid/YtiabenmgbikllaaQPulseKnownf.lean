/- Contracts of the program's functions and plain laws for the law PulseKnown, several texts in one (part 6); the program's functions as Lean functions came out of the kit's print. Conditions: each theorem's own. -/
import Derived.Test.YtiabenmgbikllaaQPulseKnowne
-- PAllx4
namespace Go.Proofs.Ytiabenmgbikllaa.PAll
open Go.RowKit Go.Proofs.YtiabenmgbikllaaW.PrintWords Go.Proofs.YtiabenmgbikllaaW.PrintLast Go.Proofs.YtiabenmgbikllaaW.PrintMore
attribute [local go_sem] max2_int min2_int max_two min_two max_three min_three max_four min_four   -- for this text's walks alone
set_option linter.unusedVariables false
set_option linter.unusedSimpArgs false

def madrigalref3_Dec_Tell.f (k : Nat) (s0_0 : List Int) (s0_1 : Int) (s0_2 : Int) (s0_3 : Int) (s0_4 : Int) (s0_5 : Int) (s0_6 : Int) (s0_7 : Int) (s0_8 : Int) (s0_9 : Bool) (s0_10 : Int) : Option (Int × Int × Int × Int × Int × Int × Int × Int × Int × Bool × Int) := (madrigalref1_Len.f k (wrap64 (s0_1))).bind fun t410 => (some (wrap64 (s0_8 - t410), s0_1, s0_2, s0_3, s0_4, s0_5, s0_6, s0_7, s0_8, s0_9, s0_10))
theorem madrigalref3_Dec_Tell.mono : ∀ a0 a1 a2 a3 a4 a5 a6 a7 a8 a9 a10 k, LeO (madrigalref3_Dec_Tell.f k a0 a1 a2 a3 a4 a5 a6 a7 a8 a9 a10) (madrigalref3_Dec_Tell.f (k + 1) a0 a1 a2 a3 a4 a5 a6 a7 a8 a9 a10) := by
  intro a0 a1 a2 a3 a4 a5 a6 a7 a8 a9 a10 k
  unfold madrigalref3_Dec_Tell.f
  repeat' first
      | (with_reducible exact madrigalref1_Len.mono _ _)
      | (with_reducible exact LeO.refl _)
      | (with_reducible exact LeO.none _)
      | (with_reducible refine LeO.ite ?_ ?_)
      | (with_reducible refine LeO.bind ?_ (fun _ => ?_))
      | exact madrigalref1_Len.mono _ _
      | exact LeO.none _
      | refine LeO.ite ?_ ?_
      | refine LeO.bind ?_ (fun _ => ?_)
def madrigalref1_Mul.j0 : Nat → Int → Int → Bool → Option (Int)
  | 0, _, _, _ => none
  | k + 1, x2, x7, x21 => if x21 = true then (some 0) else (if x2 = 0 then (some x7) else (if 0 ≤ (IntKind.u64.wrap (wrap64 (x2 - 1))) then (if 0 ≤ (IntKind.u64.wrap (x2)) then (if (wrap64 (x7 - (shl .i64 (shr .i64 x7 (IntKind.u64.wrap (x2))) (IntKind.u64.wrap (x2))))) ≥ (shl .i64 1 (IntKind.u64.wrap (wrap64 (x2 - 1)))) then (some (wrap64 ((shr .i64 x7 (IntKind.u64.wrap (x2))) + 1))) else (some (shr .i64 x7 (IntKind.u64.wrap (x2))))) else (none)) else (none)))
def madrigalref1_Mul.f (k : Nat) (a0 : Int) (a1 : Int) (a2 : Int) : Option (Int) := (madrigalref1_Clamp.f k a0 (-2147483648) 2147483648).bind fun t411 => ((madrigalref1_Clamp.f k a1 (-2147483648) 2147483648).bind fun t412 => (if a2 < 0 then (madrigalref1_Mul.j0 k a2 (wrap64 (t411 * t412)) true) else (madrigalref1_Mul.j0 k a2 (wrap64 (t411 * t412)) (decide (a2 > 62)))))
theorem madrigalref1_Mul.mono_l : ∀ k, (∀ y0 y1 y2, LeO (madrigalref1_Mul.j0 k y0 y1 y2) (madrigalref1_Mul.j0 (k + 1) y0 y1 y2))
  | 0 => fun _ _ _ r h => by simp [madrigalref1_Mul.j0] at h
  | k + 1 => by
    have ih0 := madrigalref1_Mul.mono_l k
    · intro y0 y1 y2
      unfold madrigalref1_Mul.j0
      repeat' first
      | (with_reducible exact ih0 _ _ _)
      | (with_reducible exact madrigalref1_Clamp.mono _ _ _ _)
      | (with_reducible exact LeO.refl _)
      | (with_reducible exact LeO.none _)
      | (with_reducible refine LeO.ite ?_ ?_)
      | (with_reducible refine LeO.bind ?_ (fun _ => ?_))
      | exact ih0 _ _ _
      | exact madrigalref1_Clamp.mono _ _ _ _
      | exact LeO.none _
      | refine LeO.ite ?_ ?_
      | refine LeO.bind ?_ (fun _ => ?_)
theorem madrigalref1_Mul.mono : ∀ a0 a1 a2 k, LeO (madrigalref1_Mul.f k a0 a1 a2) (madrigalref1_Mul.f (k + 1) a0 a1 a2) := by
  intro a0 a1 a2 k
  have ih0 := madrigalref1_Mul.mono_l k
  unfold madrigalref1_Mul.f
  repeat' first
      | (with_reducible exact ih0 _ _ _)
      | (with_reducible exact madrigalref1_Clamp.mono _ _ _ _)
      | (with_reducible exact LeO.refl _)
      | (with_reducible exact LeO.none _)
      | (with_reducible refine LeO.ite ?_ ?_)
      | (with_reducible refine LeO.bind ?_ (fun _ => ?_))
      | exact ih0 _ _ _
      | exact madrigalref1_Clamp.mono _ _ _ _
      | exact LeO.none _
      | refine LeO.ite ?_ ?_
      | refine LeO.bind ?_ (fun _ => ?_)
set_option maxHeartbeats 8000000 in
set_option maxRecDepth 100000 in
theorem madrigalref1_Mul.calls (k : Nat) (a0 : Int) (a1 : Int) (a2 : Int) (r : Int) (w : World) (h : madrigalref1_Mul.f k a0 a1 a2 = some r) :
    Calls Try.prog 125 #[.int .i64 a0, .int .i64 a1, .int .i64 a2] w fun e w' => e = .returned (.int .i64 r) ∧ Drawn0 w w' := by
  have H : ((madrigalref1_Clamp.f k a0 (-2147483648) 2147483648).bind fun t411 => ((madrigalref1_Clamp.f k a1 (-2147483648) 2147483648).bind fun t412 => (if a2 < 0 then (madrigalref1_Mul.j0 k a2 (wrap64 (t411 * t412)) true) else (madrigalref1_Mul.j0 k a2 (wrap64 (t411 * t412)) (decide (a2 > 62)))))) = some r := h
  clear h
  replace H := Option.bind_eq_some_iff.mp H
  obtain ⟨t411, A40, H⟩ := H
  replace H : ((madrigalref1_Clamp.f k a1 (-2147483648) 2147483648).bind fun t412 => (if a2 < 0 then (madrigalref1_Mul.j0 k a2 (wrap64 (t411 * t412)) true) else (madrigalref1_Mul.j0 k a2 (wrap64 (t411 * t412)) (decide (a2 > 62))))) = some r := H
  have A4 := Aside0.mk A40
  clear A40
  replace H := Option.bind_eq_some_iff.mp H
  obtain ⟨t412, A50, H⟩ := H
  replace H : (if a2 < 0 then (madrigalref1_Mul.j0 k a2 (wrap64 (t411 * t412)) true) else (madrigalref1_Mul.j0 k a2 (wrap64 (t411 * t412)) (decide (a2 > 62)))) = some r := H
  have A5 := Aside0.mk A50
  clear A50
  have HC6 := Aside0.mk H
  clear H
  go_enter Try.func125, Try.ntmps125
  go_upto_region 2 with (first | ((with_reducible refine gate_callee (f := 27) rfl ?_); refine goesL_ (some 12) rfl rfl Try.func27 (by kernel_rfl) rfl #[.int .i64 a0, .int .i64 (-2147483648), .int .i64 2147483648] rfl (by (try simp only [List.map_toArray, List.map_cons, List.map_nil]); first | done | rfl | (simp only [List.length_drop, List.length_take]; rfl)) ?_; (with_reducible refine (madrigalref1_Clamp.calls k a0 (-2147483648) 2147483648 t411 _ A4.out).mono ?_); rintro e w' ⟨rfl, ⟨nd, rfl⟩⟩; refine ⟨_, rfl, ?_⟩) | ((with_reducible refine gate_callee (f := 27) rfl ?_); refine goesL_ (some 14) rfl rfl Try.func27 (by kernel_rfl) rfl #[.int .i64 a1, .int .i64 (-2147483648), .int .i64 2147483648] rfl (by (try simp only [List.map_toArray, List.map_cons, List.map_nil]); first | done | rfl | (simp only [List.length_drop, List.length_take]; rfl)) ?_; (with_reducible refine (madrigalref1_Clamp.calls k a1 (-2147483648) 2147483648 t412 _ A5.out).mono ?_); rintro e w' ⟨rfl, ⟨nd, rfl⟩⟩; refine ⟨_, rfl, ?_⟩))
  (try simp only [Act.put, List.setIfInBounds_toArray, List.set_cons_zero, List.set_cons_succ])
  go_cut [21] (fun v21 wc => ∃ (kq : Nat) (x21_5 : Bool), v21 = .bool x21_5 ∧ Aside0 (madrigalref1_Mul.j0 kq a2 (wrap64 (t411 * t412)) x21_5 = some r) ∧ Aside0 (kq ≤ k) ∧ Drawn0 w wc)
  case first =>
    have H := HC6.out
    clear HC6
    by_cases c7 : a2 < 0
    · rw [if_pos c7] at H
      have c7b0 : decide (a2 < 0) = true := decide_eq_true c7
      clear c7
      (first | rw [c7b0] | (simp only [i64_w, i32_w]; rw [c7b0]) | skip)
      have H' := Aside0.mk H
      clear H
      go_wp2
      go_meet
      case rel => exact ⟨_, (true), (by first | rfl | (simp; done) | (simp [*]; done)), H', ⟨by first | omega | exact Nat.le_refl _⟩, by repeat (first | exact Drawn0.refl _ | apply Drawn0.step)⟩
    · rw [if_neg c7] at H
      have c7b0 : decide (a2 < 0) = false := decide_eq_false c7
      clear c7
      (first | rw [c7b0] | (simp only [i64_w, i32_w]; rw [c7b0]) | skip)
      have H' := Aside0.mk H
      clear H
      go_wp2
      go_meet
      case rel => exact ⟨_, (decide (a2 > 62)), (by first | rfl | (simp; done) | (simp [*]; done)), H', ⟨by first | omega | exact Nat.le_refl _⟩, by repeat (first | exact Drawn0.refl _ | apply Drawn0.step)⟩
  case rest =>
    clear HC6
    try clear c1
    try clear c2
    try clear p2
    try clear p6
    try clear c7
    try clear c7b0
    obtain ⟨kq, x21_5, rfl, HA, HJ5, ⟨mc5, rfl⟩⟩ := hcut
    cases kq with
    | zero => exact absurd HA.out (by simp [madrigalref1_Mul.j0])
    | succ kj5 =>
      have H := HA.out
      clear HA
      simp only [madrigalref1_Mul.j0] at H
      by_cases c8 : x21_5 = true
      · subst c8
        have H1 : (some 0) = some r := by rw [if_pos rfl] at H; exact H
        clear H
        have H := H1
        clear H1
        obtain rfl := Option.some.inj H
        go_wp2
        go_ret
        exact ⟨by first | rfl | (simp; done) | (simp [*]; done), by repeat (first | exact Drawn0.refl _ | apply Drawn0.step)⟩
      · replace c8 := Bool.eq_false_iff.mpr c8
        subst c8
        have H1 : (if a2 = 0 then (some (wrap64 (t411 * t412))) else (if 0 ≤ (IntKind.u64.wrap (wrap64 (a2 - 1))) then (if 0 ≤ (IntKind.u64.wrap (a2)) then (if (wrap64 ((wrap64 (t411 * t412)) - (shl .i64 (shr .i64 (wrap64 (t411 * t412)) (IntKind.u64.wrap (a2))) (IntKind.u64.wrap (a2))))) ≥ (shl .i64 1 (IntKind.u64.wrap (wrap64 (a2 - 1)))) then (some (wrap64 ((shr .i64 (wrap64 (t411 * t412)) (IntKind.u64.wrap (a2))) + 1))) else (some (shr .i64 (wrap64 (t411 * t412)) (IntKind.u64.wrap (a2))))) else (none)) else (none))) = some r := by rw [if_neg (show ¬ (false = true) by decide)] at H; exact H
        clear H
        have H := H1
        clear H1
        by_cases c9 : a2 = 0
        · rw [if_pos c9] at H
          have c9b0 : (a2 == 0) = true := beq_iff_eq.mpr c9
          have c9b1 : (a2 != 0) = false := bne_eq_false_iff_eq.mpr c9
          clear c9
          obtain rfl := Option.some.inj H
          go_wp2
          go_ret
          exact ⟨by first | rfl | (simp; done) | (simp [*]; done), by repeat (first | exact Drawn0.refl _ | apply Drawn0.step)⟩
        · rw [if_neg c9] at H
          have c9b0 : (a2 == 0) = false := beq_eq_false_iff_ne.mpr c9
          have c9b1 : (a2 != 0) = true := bne_iff_ne.mpr c9
          obtain ⟨ji10, hji10⟩ : ∃ j_ : Int, (IntKind.u64.wrap (wrap64 (a2 - 1))) = j_ := ⟨_, rfl⟩
          replace H : (if 0 ≤ (ji10) then (if 0 ≤ (IntKind.u64.wrap (a2)) then (if (wrap64 ((wrap64 (t411 * t412)) - (shl .i64 (shr .i64 (wrap64 (t411 * t412)) (IntKind.u64.wrap (a2))) (IntKind.u64.wrap (a2))))) ≥ (shl .i64 1 (ji10)) then (some (wrap64 ((shr .i64 (wrap64 (t411 * t412)) (IntKind.u64.wrap (a2))) + 1))) else (some (shr .i64 (wrap64 (t411 * t412)) (IntKind.u64.wrap (a2))))) else (none)) else (none)) = some r := by first | (rw [hji10] at H; exact H) | (simp only [hji10] at H ⊢; exact H)
          by_cases c11 : 0 ≤ (ji10)
          · rw [if_pos c11] at H
            have c11b0 := eq_true c11
            have c11b1 : decide (0 ≤ (ji10)) = true := decide_eq_true c11
            clear c11
            obtain ⟨ji12, hji12⟩ : ∃ j_ : Int, (shl .i64 1 (ji10)) = j_ := ⟨_, rfl⟩
            replace H : (if 0 ≤ (IntKind.u64.wrap (a2)) then (if (wrap64 ((wrap64 (t411 * t412)) - (shl .i64 (shr .i64 (wrap64 (t411 * t412)) (IntKind.u64.wrap (a2))) (IntKind.u64.wrap (a2))))) ≥ (ji12) then (some (wrap64 ((shr .i64 (wrap64 (t411 * t412)) (IntKind.u64.wrap (a2))) + 1))) else (some (shr .i64 (wrap64 (t411 * t412)) (IntKind.u64.wrap (a2))))) else (none)) = some r := by first | (rw [hji12] at H; exact H) | (simp only [hji12] at H ⊢; exact H)
            have hji12_ : (IntKind.i64.wrap (1 * 2 ^ min (ji10).toNat 64)) = ji12 := hji12
            have hji12z : (ji10) ≤ 64 → (IntKind.i64.wrap (1 * 2 ^ (ji10).toNat)) = ji12 := shl_small hji12
            have hji12u : (IntKind.i64.wrap (2 ^ min (ji10).toNat 64)) = ji12 := by have h_ := hji12_; rw [Int.one_mul] at h_; exact h_
            have hji12v : (ji10) ≤ 64 → (IntKind.i64.wrap (2 ^ (ji10).toNat)) = ji12 := fun hle_ => by have h_ := hji12z hle_; rw [Int.one_mul] at h_; exact h_
            have hji12y : (wrap64 (1 * 2 ^ min (ji10).toNat 64)) = ji12 := (i64_w _).symm.trans hji12_
            have hji12x : (ji10) ≤ 64 → (wrap64 (1 * 2 ^ (ji10).toNat)) = ji12 := fun h_ => (i64_w _).symm.trans (hji12z h_)
            obtain ⟨ji13, hji13⟩ : ∃ j_ : Int, (IntKind.u64.wrap (a2)) = j_ := ⟨_, rfl⟩
            replace H : (if 0 ≤ (ji13) then (if (wrap64 ((wrap64 (t411 * t412)) - (shl .i64 (shr .i64 (wrap64 (t411 * t412)) (ji13)) (ji13)))) ≥ (ji12) then (some (wrap64 ((shr .i64 (wrap64 (t411 * t412)) (ji13)) + 1))) else (some (shr .i64 (wrap64 (t411 * t412)) (ji13)))) else (none)) = some r := by first | (rw [hji13] at H; exact H) | (simp only [hji13] at H ⊢; exact H)
            by_cases c14 : 0 ≤ (ji13)
            · rw [if_pos c14] at H
              have c14b0 := eq_true c14
              have c14b1 : decide (0 ≤ (ji13)) = true := decide_eq_true c14
              clear c14
              obtain ⟨ji15, hji15⟩ : ∃ j_ : Int, (shr .i64 (wrap64 (t411 * t412)) (ji13)) = j_ := ⟨_, rfl⟩
              replace H : (if (wrap64 ((wrap64 (t411 * t412)) - (shl .i64 (ji15) (ji13)))) ≥ (ji12) then (some (wrap64 ((ji15) + 1))) else (some ji15)) = some r := by first | (rw [hji15] at H; exact H) | (simp only [hji15] at H ⊢; exact H)
              have hji15_ : ((wrap64 (t411 * t412)) / 2 ^ min (ji13).toNat 64) = ji15 := hji15
              have hji15z : (ji13) ≤ 64 → ((wrap64 (t411 * t412)) / 2 ^ (ji13).toNat) = ji15 := shr_small hji15
              have c16b0 := eq_true (of_decide_eq_true (by first | (with_reducible assumption) | assumption) : 0 ≤ (ji13))
              obtain ⟨ji17, hji17⟩ : ∃ j_ : Int, (shl .i64 (ji15) (ji13)) = j_ := ⟨_, rfl⟩
              replace H : (if (wrap64 ((wrap64 (t411 * t412)) - (ji17))) ≥ (ji12) then (some (wrap64 ((ji15) + 1))) else (some ji15)) = some r := by first | (rw [hji17] at H; exact H) | (simp only [hji17] at H ⊢; exact H)
              have hji17_ : (IntKind.i64.wrap ((ji15) * 2 ^ min (ji13).toNat 64)) = ji17 := hji17
              have hji17z : (ji13) ≤ 64 → (IntKind.i64.wrap ((ji15) * 2 ^ (ji13).toNat)) = ji17 := shl_small hji17
              have hji17y : (wrap64 ((ji15) * 2 ^ min (ji13).toNat 64)) = ji17 := (i64_w _).symm.trans hji17_
              have hji17x : (ji13) ≤ 64 → (wrap64 ((ji15) * 2 ^ (ji13).toNat)) = ji17 := fun h_ => (i64_w _).symm.trans (hji17z h_)
              by_cases c18 : (wrap64 ((wrap64 (t411 * t412)) - (ji17))) ≥ (ji12)
              · rw [if_pos c18] at H
                have c18b0 : decide ((ji12) ≤ (wrap64 ((wrap64 (t411 * t412)) - (ji17)))) = true := decide_eq_true c18
                clear c18
                obtain rfl := Option.some.inj H
                go_wp2
                go_ret
                exact ⟨by first | rfl | (simp; done) | (simp only [← hji10, ← hji12, ← hji13, ← hji15, ← hji17] <;> (first | rfl | simp)) | (simp [*]; done), by repeat (first | exact Drawn0.refl _ | apply Drawn0.step)⟩
              · rw [if_neg c18] at H
                have c18b0 : decide ((ji12) ≤ (wrap64 ((wrap64 (t411 * t412)) - (ji17)))) = false := decide_eq_false c18
                clear c18
                obtain rfl := Option.some.inj H
                go_wp2
                go_ret
                exact ⟨by first | rfl | (simp; done) | (simp only [← hji10, ← hji12, ← hji13, ← hji15, ← hji17] <;> (first | rfl | simp)) | (simp [*]; done), by repeat (first | exact Drawn0.refl _ | apply Drawn0.step)⟩
            · rw [if_neg c14] at H
              exact absurd H (by simp)
          · rw [if_neg c11] at H
            exact absurd H (by simp)

def madrigalref1_Exp2.l0 : Nat → Int → List Int → Int → Int → Option (Int)
  | 0, _, _, _, _ => none
  | k + 1, x0, x3, x4, x5 => if x5 < 8 then (if 0 ≤ (IntKind.u64.wrap (wrap64 (7 - x5))) then (if (Go.bits .and .i64 (shr .i64 x0 (IntKind.u64.wrap (wrap64 (7 - x5)))) 1) = 1 then (if 0 ≤ x5 then (if x5 < (x3.length : Int) then ((madrigalref1_Mul.f k x4 (rd x3 x5) 30).bind fun t418 => (madrigalref1_Exp2.l0 k x0 x3 t418 (wrap64 (x5 + 1)))) else (none)) else (none)) else (madrigalref1_Exp2.l0 k x0 x3 x4 (wrap64 (x5 + 1)))) else (none)) else ((madrigalref1_Mul.f k x4 1 (wrap64 (30 - (wrap64 (Int.tdiv x0 256))))).bind fun t419 => (some t419))
def madrigalref1_Exp2.f (k : Nat) (a0 : Int) : Option (Int) := (madrigalref1_Clamp.f k a0 0 7935).bind fun t413 => (madrigalref1_Exp2.l0 k t413 (([1518500250, 1276901417, 1170923762, 1121280436, 1097253708, 1085434106, 1079572136, 1076653033] : List Int)) 1073741824 0)
theorem madrigalref1_Exp2.mono_l : ∀ k, (∀ y0 y1 y2 y3, LeO (madrigalref1_Exp2.l0 k y0 y1 y2 y3) (madrigalref1_Exp2.l0 (k + 1) y0 y1 y2 y3))
  | 0 => fun _ _ _ _ r h => by simp [madrigalref1_Exp2.l0] at h
  | k + 1 => by
    have ih0 := madrigalref1_Exp2.mono_l k
    · intro y0 y1 y2 y3
      unfold madrigalref1_Exp2.l0
      repeat' first
      | (with_reducible exact ih0 _ _ _ _)
      | (with_reducible exact madrigalref1_Clamp.mono _ _ _ _)
      | (with_reducible exact madrigalref1_Mul.mono _ _ _ _)
      | (with_reducible exact LeO.refl _)
      | (with_reducible exact LeO.none _)
      | (with_reducible refine LeO.ite ?_ ?_)
      | (with_reducible refine LeO.bind ?_ (fun _ => ?_))
      | exact ih0 _ _ _ _
      | exact madrigalref1_Clamp.mono _ _ _ _
      | exact madrigalref1_Mul.mono _ _ _ _
      | exact LeO.none _
      | refine LeO.ite ?_ ?_
      | refine LeO.bind ?_ (fun _ => ?_)
theorem madrigalref1_Exp2.mono : ∀ a0 k, LeO (madrigalref1_Exp2.f k a0) (madrigalref1_Exp2.f (k + 1) a0) := by
  intro a0 k
  have ih0 := madrigalref1_Exp2.mono_l k
  unfold madrigalref1_Exp2.f
  repeat' first
      | (with_reducible exact ih0 _ _ _ _)
      | (with_reducible exact madrigalref1_Clamp.mono _ _ _ _)
      | (with_reducible exact madrigalref1_Mul.mono _ _ _ _)
      | (with_reducible exact LeO.refl _)
      | (with_reducible exact LeO.none _)
      | (with_reducible refine LeO.ite ?_ ?_)
      | (with_reducible refine LeO.bind ?_ (fun _ => ?_))
      | exact ih0 _ _ _ _
      | exact madrigalref1_Clamp.mono _ _ _ _
      | exact madrigalref1_Mul.mono _ _ _ _
      | exact LeO.none _
      | refine LeO.ite ?_ ?_
      | refine LeO.bind ?_ (fun _ => ?_)
set_option maxHeartbeats 8000000 in
set_option maxRecDepth 100000 in
theorem madrigalref1_Exp2.calls (k : Nat) (a0 : Int) (r : Int) (w : World) (h : madrigalref1_Exp2.f k a0 = some r) :
    Calls Try.prog 83 #[.int .i64 a0] w fun e w' => e = .returned (.int .i64 r) ∧ Below w.heap.size w w' := by
  have HB := Aside0.mk (Below.refl w.heap.size w)
  have H : ((madrigalref1_Clamp.f k a0 0 7935).bind fun t413 => (madrigalref1_Exp2.l0 k t413 (([1518500250, 1276901417, 1170923762, 1121280436, 1097253708, 1085434106, 1079572136, 1076653033] : List Int)) 1073741824 0)) = some r := h
  clear h
  replace H := Option.bind_eq_some_iff.mp H
  obtain ⟨t413, A20, H⟩ := H
  replace H : (madrigalref1_Exp2.l0 k t413 (([1518500250, 1276901417, 1170923762, 1121280436, 1097253708, 1085434106, 1079572136, 1076653033] : List Int)) 1073741824 0) = some r := H
  have A2 := Aside0.mk A20
  clear A20
  obtain ⟨y414, hy414⟩ : ∃ y_ : List Int, y_ = (([1518500250, 1276901417, 1170923762, 1121280436, 1097253708, 1085434106, 1079572136, 1076653033] : List Int)) := ⟨_, rfl⟩
  replace H : (madrigalref1_Exp2.l0 k t413 y414 1073741824 0) = some r := by first | (rw [hy414]; with_reducible exact H) | (have H2_ := (Option.bind_some _ _).symm.trans H; rw [hy414]; with_reducible exact H2_) | (have H2_ := (Option.bind_some _ _).symm.trans H; with_reducible exact H2_) | with_reducible exact H | (rw [hy414]; exact H) | exact H
  have Ny414 := Aside0.mk hy414
  clear hy414
  have H' := Aside0.mk H
  clear H
  go_enter Try.func83, Try.ntmps83
  go_wp2_with (first | ((with_reducible refine gate_callee (f := 27) rfl ?_); refine goesL_ (some 7) rfl rfl Try.func27 (by kernel_rfl) rfl #[.int .i64 a0, .int .i64 0, .int .i64 7935] rfl (by (try simp only [List.map_toArray, List.map_cons, List.map_nil]); first | done | rfl | (simp only [List.length_drop, List.length_take]; rfl)) ?_; (with_reducible refine (madrigalref1_Clamp.calls k a0 0 7935 t413 _ A2.out).mono ?_); rintro e w' ⟨rfl, ⟨nd, rfl⟩⟩; refine ⟨_, rfl, ?_⟩) | ((with_reducible refine gate_dst (N := 8) rfl ?_); refine Kd.R_lit (Kd.int .i64) _ 2 ?hg (N := 8) ?hd (xs := ([1518500250, 1276901417, 1170923762, 1121280436, 1097253708, 1085434106, 1079572136, 1076653033] : List Int)) (inner := [.int .i64 1518500250, .int .i64 1276901417, .int .i64 1170923762, .int .i64 1121280436, .int .i64 1097253708, .int .i64 1085434106, .int .i64 1079572136, .int .i64 1076653033]) (ok := fun _ => True) (okp := fun _ => True) ?hr ?hp (fun _ hk => hk) trivial (Below.refl _ _) (Nat.le_refl _) (by simp) ?_; (case hd => rfl); (case hg => rfl); (case hr => first | (go_simp; done) | (go_simp; rfl)); (case hp => exact (Reps.one (show Kd.M (Kd.int .i64) _ _ _ 1518500250 [.int .i64 1518500250] from rfl) (Reps.one (show Kd.M (Kd.int .i64) _ _ _ 1276901417 [.int .i64 1276901417] from rfl) (Reps.one (show Kd.M (Kd.int .i64) _ _ _ 1170923762 [.int .i64 1170923762] from rfl) (Reps.one (show Kd.M (Kd.int .i64) _ _ _ 1121280436 [.int .i64 1121280436] from rfl) (Reps.one (show Kd.M (Kd.int .i64) _ _ _ 1097253708 [.int .i64 1097253708] from rfl) (Reps.one (show Kd.M (Kd.int .i64) _ _ _ 1085434106 [.int .i64 1085434106] from rfl) (Reps.one (show Kd.M (Kd.int .i64) _ _ _ 1079572136 [.int .i64 1079572136] from rfl) (Reps.one (show Kd.M (Kd.int .i64) _ _ _ 1076653033 [.int .i64 1076653033] from rfl) (Reps.none _ _)))))))))); intro v415 w3 ho4 hb hg_ hnew_; clear hg_ hnew_; (first | rw [← Ny414.out] at ho4 | (simp only [Int.reduceToNat] at ho4; rw [← Ny414.out] at ho4)); have n0_ := Aside0.mk (Kd.R_lower ho4 (below_size (by repeat (first | (with_reducible first | exact HB.out | apply below_alloc | apply pw_below_drewN | apply below_drew1) | exact HB.out)))); have n1_ := Aside0.mk (below_step (by repeat (first | (with_reducible first | exact HB.out | apply below_alloc | apply pw_below_drewN | apply below_drew1) | exact HB.out)) hb); clear HB; have HO416 := n0_; have HB := n1_; clear n0_ n1_; clear hb ho4))
  go_loopg [4, 5] k (fun kq v4 v5 w' => ∃ (x4_1 : Int) (x5_1 : Int), v4 = .int .i64 x4_1 ∧ v5 = .int .i64 x5_1 ∧ Aside0 (madrigalref1_Exp2.l0 kq t413 y414 x4_1 x5_1 = some r) ∧ Aside0 (kq ≤ k) ∧ Aside0 (Kd.R (Kd.int .i64) 2 w' w.heap.size (fun _ => True) v415 y414) ∧ Aside0 (Below w.heap.size w w'))
  case atStart => exact ⟨(1073741824), (0), (by first | rfl | (simp; done) | (simp [*]; done)), (by first | rfl | (simp; done) | (simp [*]; done)), H', ⟨Nat.le_refl _⟩, ⟨by (with_reducible repeat (first | apply Kd.R_alloc | apply Kd.R_drewN | apply Kd.R_drew)); exact HO416.out⟩, ⟨by repeat (first | (with_reducible first | exact HB.out | apply below_alloc | apply pw_below_drewN | apply below_drew1) | exact HB.out)⟩⟩
  case round =>
    clear H'
    try clear c2
    try clear p2
    obtain ⟨x4_1, x5_1, rfl, rfl, HA, HK1, HO_3, HB⟩ := hrel
    cases gk with
    | zero => exact absurd HA.out (by simp [madrigalref1_Exp2.l0])
    | succ k1 =>
      have H := HA.out
      clear HA
      simp only [madrigalref1_Exp2.l0] at H
      by_cases c5 : x5_1 < 8
      · rw [if_pos c5] at H
        have c5b0 : decide (x5_1 < 8) = true := decide_eq_true c5
        clear c5
        obtain ⟨ji6, hji6⟩ : ∃ j_ : Int, (IntKind.u64.wrap (wrap64 (7 - x5_1))) = j_ := ⟨_, rfl⟩
        replace H : (if 0 ≤ (ji6) then (if (Go.bits .and .i64 (shr .i64 t413 (ji6)) 1) = 1 then (if 0 ≤ x5_1 then (if x5_1 < (y414.length : Int) then ((madrigalref1_Mul.f k1 x4_1 (rd y414 x5_1) 30).bind fun t418 => (madrigalref1_Exp2.l0 k1 t413 y414 t418 (wrap64 (x5_1 + 1)))) else (none)) else (none)) else (madrigalref1_Exp2.l0 k1 t413 y414 x4_1 (wrap64 (x5_1 + 1)))) else (none)) = some r := by first | (rw [hji6] at H; exact H) | (simp only [hji6] at H ⊢; exact H)
        by_cases c7 : 0 ≤ (ji6)
        · rw [if_pos c7] at H
          have c7b0 := eq_true c7
          have c7b1 : decide (0 ≤ (ji6)) = true := decide_eq_true c7
          clear c7
          obtain ⟨ji8, hji8⟩ : ∃ j_ : Int, (shr .i64 t413 (ji6)) = j_ := ⟨_, rfl⟩
          replace H : (if (Go.bits .and .i64 (ji8) 1) = 1 then (if 0 ≤ x5_1 then (if x5_1 < (y414.length : Int) then ((madrigalref1_Mul.f k1 x4_1 (rd y414 x5_1) 30).bind fun t418 => (madrigalref1_Exp2.l0 k1 t413 y414 t418 (wrap64 (x5_1 + 1)))) else (none)) else (none)) else (madrigalref1_Exp2.l0 k1 t413 y414 x4_1 (wrap64 (x5_1 + 1)))) = some r := by first | (rw [hji8] at H; exact H) | (simp only [hji8] at H ⊢; exact H)
          have hji8_ : (t413 / 2 ^ min (ji6).toNat 64) = ji8 := hji8
          have hji8z : (ji6) ≤ 64 → (t413 / 2 ^ (ji6).toNat) = ji8 := shr_small hji8
          by_cases c9 : (Go.bits .and .i64 (ji8) 1) = 1
          · rw [if_pos c9] at H
            have c9b0 : ((Go.bits .and .i64 (ji8) 1) == 1) = true := beq_iff_eq.mpr c9
            have c9b1 : ((Go.bits .and .i64 (ji8) 1) != 1) = false := bne_eq_false_iff_eq.mpr c9
            clear c9
            by_cases c10 : 0 ≤ x5_1
            · rw [if_pos c10] at H
              have c10b0 : decide (0 ≤ x5_1) = true := decide_eq_true c10
              clear c10
              by_cases c11 : x5_1 < (y414.length : Int)
              · rw [if_pos c11] at H
                have c11b0 : decide (x5_1 < (y414.length : Int)) = true := decide_eq_true c11
                clear c11
                replace H := Option.bind_eq_some_iff.mp H
                obtain ⟨t418, A120, H⟩ := H
                replace H : (madrigalref1_Exp2.l0 k1 t413 y414 t418 (wrap64 (x5_1 + 1))) = some r := H
                have A12 := Aside0.mk A120
                clear A120
                have H' := Aside0.mk H
                clear H
                obtain ⟨Ao13, co13, eo13⟩ := Kd.R_slice HO_3.out
                subst eo13
                have p417 : 0 ≤ (x5_1 : Int) := of_decide_eq_true (by first | (with_reducible assumption) | assumption)
                have q417 : x5_1 < (y414.length : Int) := of_decide_eq_true (by first | (with_reducible assumption) | assumption)
                obtain ⟨ad417, e417, hx417_0⟩ := Kd.at_int (Kd.R_reads' HO_3.out).2.2 x5_1 p417 q417
                cases e417
                replace p417 := eq_true p417
                replace q417 := eq_true q417
                go_wp2_with (first | ((with_reducible refine gate_callee (f := 125) rfl ?_); refine goesL_ (some 25) rfl rfl Try.func125 (by kernel_rfl) rfl #[.int .i64 x4_1, .int .i64 (rd y414 x5_1), .int .i64 30] rfl (by (try simp only [List.map_toArray, List.map_cons, List.map_nil]); first | done | rfl | (simp only [List.length_drop, List.length_take]; rfl)) ?_; (with_reducible refine (madrigalref1_Mul.calls k1 x4_1 (rd y414 x5_1) 30 t418 _ A12.out).mono ?_); rintro e w' ⟨rfl, ⟨nd, rfl⟩⟩; refine ⟨_, rfl, ?_⟩))
                go_roundg k1
                case measure => have := HK1.out; omega
                case rel => exact ⟨(t418), (wrap64 (x5_1 + 1)), (by first | rfl | (simp; done) | (simp [*]; done)), (by first | rfl | (simp; done) | (simp [*]; done)), H', ⟨by have := HK1.out; omega⟩, ⟨by (with_reducible repeat (first | apply Kd.R_alloc | apply Kd.R_drewN | apply Kd.R_drew)); exact HO_3.out⟩, ⟨by repeat (first | (with_reducible first | exact HB.out | apply below_alloc | apply pw_below_drewN | apply below_drew1) | exact HB.out)⟩⟩
              · rw [if_neg c11] at H
                exact absurd H (by simp)
            · rw [if_neg c10] at H
              exact absurd H (by simp)
          · rw [if_neg c9] at H
            have c9b0 : ((Go.bits .and .i64 (ji8) 1) == 1) = false := beq_eq_false_iff_ne.mpr c9
            have c9b1 : ((Go.bits .and .i64 (ji8) 1) != 1) = true := bne_iff_ne.mpr c9
            have H' := Aside0.mk H
            clear H
            go_wp2
            go_roundg k1
            case measure => have := HK1.out; omega
            case rel => exact ⟨(x4_1), (wrap64 (x5_1 + 1)), (by first | rfl | (simp; done) | (simp [*]; done)), (by first | rfl | (simp; done) | (simp [*]; done)), H', ⟨by have := HK1.out; omega⟩, ⟨by (with_reducible repeat (first | apply Kd.R_alloc | apply Kd.R_drewN | apply Kd.R_drew)); exact HO_3.out⟩, ⟨by repeat (first | (with_reducible first | exact HB.out | apply below_alloc | apply pw_below_drewN | apply below_drew1) | exact HB.out)⟩⟩
        · rw [if_neg c7] at H
          exact absurd H (by simp)
      · rw [if_neg c5] at H
        have c5b0 : decide (x5_1 < 8) = false := decide_eq_false c5
        clear c5
        replace H := Option.bind_eq_some_iff.mp H
        obtain ⟨t419, A140, H⟩ := H
        replace H : (some t419) = some r := H
        have A14 := Aside0.mk A140
        clear A140
        obtain rfl := Option.some.inj H
        go_wp2_with (first | ((with_reducible refine gate_callee (f := 125) rfl ?_); refine goesL_ (some 30) rfl rfl Try.func125 (by kernel_rfl) rfl #[.int .i64 x4_1, .int .i64 1, .int .i64 (wrap64 (30 - (wrap64 (Int.tdiv t413 256))))] rfl (by (try simp only [List.map_toArray, List.map_cons, List.map_nil]); first | done | rfl | (simp only [List.length_drop, List.length_take]; rfl)) ?_; (with_reducible refine (madrigalref1_Mul.calls k1 x4_1 1 (wrap64 (30 - (wrap64 (Int.tdiv t413 256)))) t419 _ A14.out).mono ?_); rintro e w' ⟨rfl, ⟨nd, rfl⟩⟩; refine ⟨_, rfl, ?_⟩))
        go_ret
        exact ⟨by first | rfl | (simp [errW_none, errW_some] <;> rfl) | (simp [*, errW_none, errW_some] <;> rfl), by repeat (first | (with_reducible first | exact HB.out | apply below_alloc | apply pw_below_drewN | apply below_drew1) | exact HB.out)⟩

def madrigalref6_Loud.f (k : Nat) (a0 : Int) : Option (Int) := (madrigalref1_Clamp.f k a0 0 63).bind fun t420 => ((madrigalref1_Exp2.f k (wrap64 (70 * t420))).bind fun t421 => (some t421))
theorem madrigalref6_Loud.mono : ∀ a0 k, LeO (madrigalref6_Loud.f k a0) (madrigalref6_Loud.f (k + 1) a0) := by
  intro a0 k
  unfold madrigalref6_Loud.f
  repeat' first
      | (with_reducible exact madrigalref1_Clamp.mono _ _ _ _)
      | (with_reducible exact madrigalref1_Exp2.mono _ _)
      | (with_reducible exact LeO.refl _)
      | (with_reducible exact LeO.none _)
      | (with_reducible refine LeO.ite ?_ ?_)
      | (with_reducible refine LeO.bind ?_ (fun _ => ?_))
      | exact madrigalref1_Clamp.mono _ _ _ _
      | exact madrigalref1_Exp2.mono _ _
      | exact LeO.none _
      | refine LeO.ite ?_ ?_
      | refine LeO.bind ?_ (fun _ => ?_)
set_option maxHeartbeats 8000000 in
set_option maxRecDepth 100000 in
theorem madrigalref6_Loud.calls (k : Nat) (a0 : Int) (r : Int) (w : World) (h : madrigalref6_Loud.f k a0 = some r) :
    Calls Try.prog 34 #[.int .i64 a0] w fun e w' => e = .returned (.int .i64 r) ∧ Below w.heap.size w w' := by
  have HB := Aside0.mk (Below.refl w.heap.size w)
  have H : ((madrigalref1_Clamp.f k a0 0 63).bind fun t420 => ((madrigalref1_Exp2.f k (wrap64 (70 * t420))).bind fun t421 => (some t421))) = some r := h
  clear h
  replace H := Option.bind_eq_some_iff.mp H
  obtain ⟨t420, A20, H⟩ := H
  replace H : ((madrigalref1_Exp2.f k (wrap64 (70 * t420))).bind fun t421 => (some t421)) = some r := H
  have A2 := Aside0.mk A20
  clear A20
  replace H := Option.bind_eq_some_iff.mp H
  obtain ⟨t421, A30, H⟩ := H
  replace H : (some t421) = some r := H
  have A3 := Aside0.mk A30
  clear A30
  obtain rfl := Option.some.inj H
  go_enter Try.func34, Try.ntmps34
  go_wp2_with (first | ((with_reducible refine gate_callee (f := 27) rfl ?_); refine goesL_ (some 4) rfl rfl Try.func27 (by kernel_rfl) rfl #[.int .i64 a0, .int .i64 0, .int .i64 63] rfl (by (try simp only [List.map_toArray, List.map_cons, List.map_nil]); first | done | rfl | (simp only [List.length_drop, List.length_take]; rfl)) ?_; (with_reducible refine (madrigalref1_Clamp.calls k a0 0 63 t420 _ A2.out).mono ?_); rintro e w' ⟨rfl, ⟨nd, rfl⟩⟩; refine ⟨_, rfl, ?_⟩) | ((with_reducible refine gate_callee (f := 83) rfl ?_); refine goesL_ (some 6) rfl rfl Try.func83 (by kernel_rfl) rfl #[.int .i64 (wrap64 (70 * t420))] rfl (by (try simp only [List.map_toArray, List.map_cons, List.map_nil]); first | done | rfl | (simp only [List.length_drop, List.length_take]; rfl)) ?_; (with_reducible refine (madrigalref1_Exp2.calls k (wrap64 (70 * t420)) t421 _ A3.out).mono ?_); rintro e w4 ⟨rfl, hb⟩; refine ⟨_, rfl, ?_⟩; have n0_ := Aside0.mk (below_step (by repeat (first | (with_reducible first | exact HB.out | apply below_alloc | apply pw_below_drewN | apply below_drew1) | exact HB.out)) hb); clear HB; have HB := n0_; clear n0_; (try clear hb); (try clear hb2); (try clear hk); (try clear hi)))
  go_ret
  exact ⟨by first | rfl | (simp [errW_none, errW_some] <;> rfl) | (simp [*, errW_none, errW_some] <;> rfl), by repeat (first | (with_reducible first | exact HB.out | apply below_alloc | apply pw_below_drewN | apply below_drew1) | exact HB.out)⟩

def madrigalref6_far.f (a0 : Int) (a1 : Int) : Option (Int) := if a0 ≥ a1 then (some (IntKind.u64.wrap ((IntKind.u64.wrap (a0)) - (IntKind.u64.wrap (a1))))) else (some (IntKind.u64.wrap ((IntKind.u64.wrap (a1)) - (IntKind.u64.wrap (a0)))))
set_option maxHeartbeats 8000000 in
set_option maxRecDepth 100000 in
theorem madrigalref6_far.calls (a0 : Int) (a1 : Int) (r : Int) (w : World) (h : madrigalref6_far.f a0 a1 = some r) :
    Calls Try.prog 84 #[.int .i64 a0, .int .i64 a1] w fun e w' => e = .returned (.int .u64 r) ∧ Drawn0 w w' := by
  have H : (if a0 ≥ a1 then (some (IntKind.u64.wrap ((IntKind.u64.wrap (a0)) - (IntKind.u64.wrap (a1))))) else (some (IntKind.u64.wrap ((IntKind.u64.wrap (a1)) - (IntKind.u64.wrap (a0)))))) = some r := h
  clear h
  by_cases c3 : a0 ≥ a1
  · rw [if_pos c3] at H
    have c3b0 : decide (a1 ≤ a0) = true := decide_eq_true c3
    clear c3
    obtain rfl := Option.some.inj H
    go_enter Try.func84, Try.ntmps84
    go_wp2
    go_ret
    exact ⟨by first | rfl | (simp; done) | (simp [*]; done), by repeat (first | exact Drawn0.refl _ | apply Drawn0.step)⟩
  · rw [if_neg c3] at H
    have c3b0 : decide (a1 ≤ a0) = false := decide_eq_false c3
    clear c3
    obtain rfl := Option.some.inj H
    go_enter Try.func84, Try.ntmps84
    go_wp2
    go_ret
    exact ⟨by first | rfl | (simp; done) | (simp [*]; done), by repeat (first | exact Drawn0.refl _ | apply Drawn0.step)⟩

def madrigalref6_Nearest.l0 : Nat → Int → Int → Int → Option (Int)
  | 0, _, _, _ => none
  | k + 1, x0, x3, x4 => if x4 < 64 then ((madrigalref6_Loud.f k x4).bind fun t422 => ((madrigalref6_far.f x0 t422).bind fun t423 => ((madrigalref6_Loud.f k x3).bind fun t424 => ((madrigalref6_far.f x0 t424).bind fun t425 => (if t423 < t425 then (madrigalref6_Nearest.l0 k x0 x4 (wrap64 (x4 + 1))) else (madrigalref6_Nearest.l0 k x0 x3 (wrap64 (x4 + 1)))))))) else (some x3)
def madrigalref6_Nearest.f (k : Nat) (a0 : Int) : Option (Int) := madrigalref6_Nearest.l0 k a0 0 1
theorem madrigalref6_Nearest.mono_l : ∀ k, (∀ y0 y1 y2, LeO (madrigalref6_Nearest.l0 k y0 y1 y2) (madrigalref6_Nearest.l0 (k + 1) y0 y1 y2))
  | 0 => fun _ _ _ r h => by simp [madrigalref6_Nearest.l0] at h
  | k + 1 => by
    have ih0 := madrigalref6_Nearest.mono_l k
    · intro y0 y1 y2
      unfold madrigalref6_Nearest.l0
      repeat' first
      | (with_reducible exact ih0 _ _ _)
      | (with_reducible exact madrigalref6_Loud.mono _ _)
      | (with_reducible exact LeO.refl _)
      | (with_reducible exact LeO.none _)
      | (with_reducible refine LeO.ite ?_ ?_)
      | (with_reducible refine LeO.bind ?_ (fun _ => ?_))
      | exact ih0 _ _ _
      | exact madrigalref6_Loud.mono _ _
      | exact LeO.none _
      | refine LeO.ite ?_ ?_
      | refine LeO.bind ?_ (fun _ => ?_)
theorem madrigalref6_Nearest.mono : ∀ a0 k, LeO (madrigalref6_Nearest.f k a0) (madrigalref6_Nearest.f (k + 1) a0) := by
  intro a0 k
  have ih0 := madrigalref6_Nearest.mono_l k
  unfold madrigalref6_Nearest.f
  repeat' first
      | (with_reducible exact ih0 _ _ _)
      | (with_reducible exact madrigalref6_Loud.mono _ _)
      | (with_reducible exact LeO.refl _)
      | (with_reducible exact LeO.none _)
      | (with_reducible refine LeO.ite ?_ ?_)
      | (with_reducible refine LeO.bind ?_ (fun _ => ?_))
      | exact ih0 _ _ _
      | exact madrigalref6_Loud.mono _ _
      | exact LeO.none _
      | refine LeO.ite ?_ ?_
      | refine LeO.bind ?_ (fun _ => ?_)
set_option maxHeartbeats 8000000 in
set_option maxRecDepth 100000 in
theorem madrigalref6_Nearest.calls (k : Nat) (a0 : Int) (r : Int) (w : World) (h : madrigalref6_Nearest.f k a0 = some r) :
    Calls Try.prog 35 #[.int .i64 a0] w fun e w' => e = .returned (.int .i64 r) ∧ Below w.heap.size w w' := by
  have HB := Aside0.mk (Below.refl w.heap.size w)
  have H : (madrigalref6_Nearest.l0 k a0 0 1) = some r := h
  clear h
  have H' := Aside0.mk H
  clear H
  go_enter Try.func35, Try.ntmps35
  go_wp2
  go_loopg [3, 4] k (fun kq v3 v4 w' => ∃ (x3_1 : Int) (x4_1 : Int), v3 = .int .i64 x3_1 ∧ v4 = .int .i64 x4_1 ∧ Aside0 (madrigalref6_Nearest.l0 kq a0 x3_1 x4_1 = some r) ∧ Aside0 (kq ≤ k) ∧ Aside0 (Below w.heap.size w w'))
  case atStart => exact ⟨(0), (1), (by first | rfl | (simp; done) | (simp [*]; done)), (by first | rfl | (simp; done) | (simp [*]; done)), H', ⟨Nat.le_refl _⟩, ⟨by repeat (first | (with_reducible first | exact HB.out | apply below_alloc | apply pw_below_drewN | apply below_drew1) | exact HB.out)⟩⟩
  case round =>
    clear H'
    obtain ⟨x3_1, x4_1, rfl, rfl, HA, HK1, HB⟩ := hrel
    cases gk with
    | zero => exact absurd HA.out (by simp [madrigalref6_Nearest.l0])
    | succ k1 =>
      have H := HA.out
      clear HA
      simp only [madrigalref6_Nearest.l0] at H
      by_cases c2 : x4_1 < 64
      · rw [if_pos c2] at H
        have c2b0 : decide (x4_1 < 64) = true := decide_eq_true c2
        clear c2
        replace H := Option.bind_eq_some_iff.mp H
        obtain ⟨t422, A30, H⟩ := H
        replace H : ((madrigalref6_far.f a0 t422).bind fun t423 => ((madrigalref6_Loud.f k1 x3_1).bind fun t424 => ((madrigalref6_far.f a0 t424).bind fun t425 => (if t423 < t425 then (madrigalref6_Nearest.l0 k1 a0 x4_1 (wrap64 (x4_1 + 1))) else (madrigalref6_Nearest.l0 k1 a0 x3_1 (wrap64 (x4_1 + 1))))))) = some r := H
        have A3 := Aside0.mk A30
        clear A30
        replace H := Option.bind_eq_some_iff.mp H
        obtain ⟨t423, A40, H⟩ := H
        replace H : ((madrigalref6_Loud.f k1 x3_1).bind fun t424 => ((madrigalref6_far.f a0 t424).bind fun t425 => (if t423 < t425 then (madrigalref6_Nearest.l0 k1 a0 x4_1 (wrap64 (x4_1 + 1))) else (madrigalref6_Nearest.l0 k1 a0 x3_1 (wrap64 (x4_1 + 1)))))) = some r := H
        have A4 := Aside0.mk A40
        clear A40
        replace H := Option.bind_eq_some_iff.mp H
        obtain ⟨t424, A50, H⟩ := H
        replace H : ((madrigalref6_far.f a0 t424).bind fun t425 => (if t423 < t425 then (madrigalref6_Nearest.l0 k1 a0 x4_1 (wrap64 (x4_1 + 1))) else (madrigalref6_Nearest.l0 k1 a0 x3_1 (wrap64 (x4_1 + 1))))) = some r := H
        have A5 := Aside0.mk A50
        clear A50
        replace H := Option.bind_eq_some_iff.mp H
        obtain ⟨t425, A60, H⟩ := H
        replace H : (if t423 < t425 then (madrigalref6_Nearest.l0 k1 a0 x4_1 (wrap64 (x4_1 + 1))) else (madrigalref6_Nearest.l0 k1 a0 x3_1 (wrap64 (x4_1 + 1)))) = some r := H
        have A6 := Aside0.mk A60
        clear A60
        by_cases c7 : t423 < t425
        · rw [if_pos c7] at H
          have c7b0 : decide (t423 < t425) = true := decide_eq_true c7
          clear c7
          have H' := Aside0.mk H
          clear H
          go_wp2_with (first | ((with_reducible refine gate_callee (f := 34) rfl ?_); refine goesL_ (some 11) rfl rfl Try.func34 (by kernel_rfl) rfl #[.int .i64 x4_1] rfl (by (try simp only [List.map_toArray, List.map_cons, List.map_nil]); first | done | rfl | (simp only [List.length_drop, List.length_take]; rfl)) ?_; (with_reducible refine (madrigalref6_Loud.calls k1 x4_1 t422 _ A3.out).mono ?_); rintro e w8 ⟨rfl, hb⟩; refine ⟨_, rfl, ?_⟩; have n0_ := Aside0.mk (below_step (by repeat (first | (with_reducible first | exact HB.out | apply below_alloc | apply pw_below_drewN | apply below_drew1) | exact HB.out)) hb); clear HB; have HB := n0_; clear n0_; (try clear hb); (try clear hb2); (try clear hk); (try clear hi)) | ((with_reducible refine gate_callee (f := 84) rfl ?_); refine goesL_ (some 12) rfl rfl Try.func84 (by kernel_rfl) rfl #[.int .i64 a0, .int .i64 t422] rfl (by (try simp only [List.map_toArray, List.map_cons, List.map_nil]); first | done | rfl | (simp only [List.length_drop, List.length_take]; rfl)) ?_; (with_reducible refine (madrigalref6_far.calls a0 t422 t423 _ A4.out).mono ?_); rintro e w' ⟨rfl, ⟨nd, rfl⟩⟩; refine ⟨_, rfl, ?_⟩) | ((with_reducible refine gate_callee (f := 34) rfl ?_); refine goesL_ (some 15) rfl rfl Try.func34 (by kernel_rfl) rfl #[.int .i64 x3_1] rfl (by (try simp only [List.map_toArray, List.map_cons, List.map_nil]); first | done | rfl | (simp only [List.length_drop, List.length_take]; rfl)) ?_; (with_reducible refine (madrigalref6_Loud.calls k1 x3_1 t424 _ A5.out).mono ?_); rintro e w9 ⟨rfl, hb⟩; refine ⟨_, rfl, ?_⟩; have n0_ := Aside0.mk (below_step (by repeat (first | (with_reducible first | exact HB.out | apply below_alloc | apply pw_below_drewN | apply below_drew1) | exact HB.out)) hb); clear HB; have HB := n0_; clear n0_; (try clear hb); (try clear hb2); (try clear hk); (try clear hi)) | ((with_reducible refine gate_callee (f := 84) rfl ?_); refine goesL_ (some 16) rfl rfl Try.func84 (by kernel_rfl) rfl #[.int .i64 a0, .int .i64 t424] rfl (by (try simp only [List.map_toArray, List.map_cons, List.map_nil]); first | done | rfl | (simp only [List.length_drop, List.length_take]; rfl)) ?_; (with_reducible refine (madrigalref6_far.calls a0 t424 t425 _ A6.out).mono ?_); rintro e w' ⟨rfl, ⟨nd, rfl⟩⟩; refine ⟨_, rfl, ?_⟩))
          go_roundg k1
          case measure => have := HK1.out; omega
          case rel => exact ⟨(x4_1), (wrap64 (x4_1 + 1)), (by first | rfl | (simp; done) | (simp [*]; done)), (by first | rfl | (simp; done) | (simp [*]; done)), H', ⟨by have := HK1.out; omega⟩, ⟨by repeat (first | (with_reducible first | exact HB.out | apply below_alloc | apply pw_below_drewN | apply below_drew1) | exact HB.out)⟩⟩
        · rw [if_neg c7] at H
          have c7b0 : decide (t423 < t425) = false := decide_eq_false c7
          clear c7
          have H' := Aside0.mk H
          clear H
          go_wp2_with (first | ((with_reducible refine gate_callee (f := 34) rfl ?_); refine goesL_ (some 11) rfl rfl Try.func34 (by kernel_rfl) rfl #[.int .i64 x4_1] rfl (by (try simp only [List.map_toArray, List.map_cons, List.map_nil]); first | done | rfl | (simp only [List.length_drop, List.length_take]; rfl)) ?_; (with_reducible refine (madrigalref6_Loud.calls k1 x4_1 t422 _ A3.out).mono ?_); rintro e w10 ⟨rfl, hb⟩; refine ⟨_, rfl, ?_⟩; have n0_ := Aside0.mk (below_step (by repeat (first | (with_reducible first | exact HB.out | apply below_alloc | apply pw_below_drewN | apply below_drew1) | exact HB.out)) hb); clear HB; have HB := n0_; clear n0_; (try clear hb); (try clear hb2); (try clear hk); (try clear hi)) | ((with_reducible refine gate_callee (f := 84) rfl ?_); refine goesL_ (some 12) rfl rfl Try.func84 (by kernel_rfl) rfl #[.int .i64 a0, .int .i64 t422] rfl (by (try simp only [List.map_toArray, List.map_cons, List.map_nil]); first | done | rfl | (simp only [List.length_drop, List.length_take]; rfl)) ?_; (with_reducible refine (madrigalref6_far.calls a0 t422 t423 _ A4.out).mono ?_); rintro e w' ⟨rfl, ⟨nd, rfl⟩⟩; refine ⟨_, rfl, ?_⟩) | ((with_reducible refine gate_callee (f := 34) rfl ?_); refine goesL_ (some 15) rfl rfl Try.func34 (by kernel_rfl) rfl #[.int .i64 x3_1] rfl (by (try simp only [List.map_toArray, List.map_cons, List.map_nil]); first | done | rfl | (simp only [List.length_drop, List.length_take]; rfl)) ?_; (with_reducible refine (madrigalref6_Loud.calls k1 x3_1 t424 _ A5.out).mono ?_); rintro e w11 ⟨rfl, hb⟩; refine ⟨_, rfl, ?_⟩; have n0_ := Aside0.mk (below_step (by repeat (first | (with_reducible first | exact HB.out | apply below_alloc | apply pw_below_drewN | apply below_drew1) | exact HB.out)) hb); clear HB; have HB := n0_; clear n0_; (try clear hb); (try clear hb2); (try clear hk); (try clear hi)) | ((with_reducible refine gate_callee (f := 84) rfl ?_); refine goesL_ (some 16) rfl rfl Try.func84 (by kernel_rfl) rfl #[.int .i64 a0, .int .i64 t424] rfl (by (try simp only [List.map_toArray, List.map_cons, List.map_nil]); first | done | rfl | (simp only [List.length_drop, List.length_take]; rfl)) ?_; (with_reducible refine (madrigalref6_far.calls a0 t424 t425 _ A6.out).mono ?_); rintro e w' ⟨rfl, ⟨nd, rfl⟩⟩; refine ⟨_, rfl, ?_⟩))
          go_roundg k1
          case measure => have := HK1.out; omega
          case rel => exact ⟨(x3_1), (wrap64 (x4_1 + 1)), (by first | rfl | (simp; done) | (simp [*]; done)), (by first | rfl | (simp; done) | (simp [*]; done)), H', ⟨by have := HK1.out; omega⟩, ⟨by repeat (first | (with_reducible first | exact HB.out | apply below_alloc | apply pw_below_drewN | apply below_drew1) | exact HB.out)⟩⟩
      · rw [if_neg c2] at H
        have c2b0 : decide (x4_1 < 64) = false := decide_eq_false c2
        clear c2
        obtain rfl := Option.some.inj H
        go_wp2
        go_ret
        exact ⟨by first | rfl | (simp [errW_none, errW_some] <;> rfl) | (simp [*, errW_none, errW_some] <;> rfl), by repeat (first | (with_reducible first | exact HB.out | apply below_alloc | apply pw_below_drewN | apply below_drew1) | exact HB.out)⟩

-- NOT PRINTED: function 4 (madrigallaw8_GainReads)

def pulse_may.f (a0 : Int) : Option (Bool) := if a0 ≥ 16 then (if a0 ≤ 480 then (some ((Int.tmod a0 16) == 0)) else (some false)) else (some false)
set_option maxHeartbeats 8000000 in
set_option maxRecDepth 100000 in
theorem pulse_may.calls (a0 : Int) (r : Bool) (w : World) (h : pulse_may.f a0 = some r) :
    Calls Try.prog 85 #[.int .i64 a0] w fun e w' => e = .returned (.bool r) ∧ Drawn0 w w' := by
  have H : (if a0 ≥ 16 then (if a0 ≤ 480 then (some ((Int.tmod a0 16) == 0)) else (some false)) else (some false)) = some r := h
  clear h
  by_cases c2 : a0 ≥ 16
  · rw [if_pos c2] at H
    have c2b0 : decide (16 ≤ a0) = true := decide_eq_true c2
    clear c2
    by_cases c3 : a0 ≤ 480
    · rw [if_pos c3] at H
      have c3b0 : decide (a0 ≤ 480) = true := decide_eq_true c3
      clear c3
      obtain rfl := Option.some.inj H
      go_enter Try.func85, Try.ntmps85
      go_wp2
      go_ret
      exact ⟨by first | rfl | (simp; done) | (simp [*]; done), by repeat (first | exact Drawn0.refl _ | apply Drawn0.step)⟩
    · rw [if_neg c3] at H
      have c3b0 : decide (a0 ≤ 480) = false := decide_eq_false c3
      clear c3
      obtain rfl := Option.some.inj H
      go_enter Try.func85, Try.ntmps85
      go_wp2
      go_ret
      exact ⟨by first | rfl | (simp; done) | (simp [*]; done), by repeat (first | exact Drawn0.refl _ | apply Drawn0.step)⟩
  · rw [if_neg c2] at H
    have c2b0 : decide (16 ≤ a0) = false := decide_eq_false c2
    clear c2
    obtain rfl := Option.some.inj H
    go_enter Try.func85, Try.ntmps85
    go_wp2
    go_ret
    exact ⟨by first | rfl | (simp; done) | (simp [*]; done), by repeat (first | exact Drawn0.refl _ | apply Drawn0.step)⟩

def rc_Dec_end.f (s0_0 : List Int) (s0_1 : Int) (s0_2 : Int) (s0_3 : Int) (s0_4 : Int) (s0_5 : Int) (s0_6 : Int) (s0_7 : Int) (s0_8 : Int) (s0_9 : Bool) : Option (Int × Int × Int × Int × Int × Int × Int × Int × Int × Bool) := if s0_5 ≥ (s0_0.length : Int) then (some (0, s0_1, s0_2, s0_3, s0_4, s0_5, s0_6, s0_7, s0_8, s0_9)) else (if 0 ≤ (wrap64 ((s0_0.length : Int) - (wrap64 (s0_5 + 1)))) then (if (wrap64 ((s0_0.length : Int) - (wrap64 (s0_5 + 1)))) < (s0_0.length : Int) then (some (IntKind.u64.wrap (rd s0_0 (wrap64 ((s0_0.length : Int) - (wrap64 (s0_5 + 1))))), s0_1, s0_2, s0_3, s0_4, wrap64 (s0_5 + 1), s0_6, s0_7, s0_8, s0_9)) else (none)) else (none))
set_option maxHeartbeats 8000000 in
set_option maxRecDepth 100000 in
theorem rc_Dec_end.calls (g : Nat) (s0_0 : List Int) (s0_1 : Int) (s0_2 : Int) (s0_3 : Int) (s0_4 : Int) (s0_5 : Int) (s0_6 : Int) (s0_7 : Int) (s0_8 : Int) (s0_9 : Bool) (r1 : Int) (r2 : Int) (r3 : Int) (r4 : Int) (r5 : Int) (r6 : Int) (r7 : Int) (r8 : Int) (r9 : Int) (r10 : Bool) (w0 w : World) (hI : IsS91 w0 w g s0_0 s0_1 s0_2 s0_3 s0_4 s0_5 s0_6 s0_7 s0_8 s0_9) (hB : Below w0.heap.size w0 w) (h : rc_Dec_end.f s0_0 s0_1 s0_2 s0_3 s0_4 s0_5 s0_6 s0_7 s0_8 s0_9 = some (r1, r2, r3, r4, r5, r6, r7, r8, r9, r10)) :
    Calls Try.prog 127 #[.pointer (some ⟨g, 0, none⟩)] w fun e w' => e = .returned (.int .u64 r1) ∧ IsS91 w0 w' g s0_0 r2 r3 r4 r5 r6 r7 r8 r9 r10 ∧ Below w0.heap.size w0 w' ∧ KeepBut w w' g none := by
  have HI0 := Aside0.mk hI
  have HK := Aside0.mk (KeepBut.refl w g none)
  have HL := Aside0.mk hB.size
  clear hI
  have HW0 := Aside0.mk hB.size
  have HB := Aside0.mk hB
  clear hB
  have H : (if s0_5 ≥ (s0_0.length : Int) then (some (0, s0_1, s0_2, s0_3, s0_4, s0_5, s0_6, s0_7, s0_8, s0_9)) else (if 0 ≤ (wrap64 ((s0_0.length : Int) - (wrap64 (s0_5 + 1)))) then (if (wrap64 ((s0_0.length : Int) - (wrap64 (s0_5 + 1)))) < (s0_0.length : Int) then (some (IntKind.u64.wrap (rd s0_0 (wrap64 ((s0_0.length : Int) - (wrap64 (s0_5 + 1))))), s0_1, s0_2, s0_3, s0_4, wrap64 (s0_5 + 1), s0_6, s0_7, s0_8, s0_9)) else (none)) else (none))) = some (r1, r2, r3, r4, r5, r6, r7, r8, r9, r10) := h
  clear h
  by_cases c2 : s0_5 ≥ (s0_0.length : Int)
  · rw [if_pos c2] at H
    have c2b0 : decide ((s0_0.length : Int) ≤ s0_5) = true := decide_eq_true c2
    clear c2
    simp only [Option.some.injEq, Prod.mk.injEq] at H
    obtain ⟨rfl, rfl, rfl, rfl, rfl, rfl, rfl, rfl, rfl, rfl⟩ := H
    obtain ⟨ASz3_0, cSz3_0, HGz3, hgz3, HSz3_0⟩ := HI0.out
    have hcz3_0 := cellS91_0 HGz3
    have hcz3_1 := cellS91_1 HGz3
    have hcz3_2 := cellS91_2 HGz3
    have hcz3_3 := cellS91_3 HGz3
    have hcz3_4 := cellS91_4 HGz3
    have hcz3_5 := cellS91_5 HGz3
    have hcz3_6 := cellS91_6 HGz3
    have hcz3_7 := cellS91_7 HGz3
    have hcz3_8 := cellS91_8 HGz3
    have hcz3_9 := cellS91_9 HGz3
    have hfz3_1 := blk_frozen HGz3 1
    have hfz3_2 := blk_frozen HGz3 2
    have hfz3_3 := blk_frozen HGz3 3
    have hfz3_4 := blk_frozen HGz3 4
    have hfz3_5 := blk_frozen HGz3 5
    have hfz3_6 := blk_frozen HGz3 6
    have hfz3_7 := blk_frozen HGz3 7
    have hfz3_8 := blk_frozen HGz3 8
    have hfz3_9 := blk_frozen HGz3 9
    clear HGz3 hgz3
    go_enter Try.func127, Try.ntmps127
    go_wp2
    repeat (go_quiet (fail); try go_wp2)
    go_ret
    exact ⟨by first | rfl | (simp [errW_none, errW_some] <;> rfl) | (simp [*, errW_none, errW_some] <;> rfl), by repeat (first | (with_reducible first | exact HI0.out | apply IsS91.alloc | apply IsS91.drewN | apply IsS91.drew | apply IsS91.set_1 | apply IsS91.set_2 | apply IsS91.set_3 | apply IsS91.set_4 | apply IsS91.set_5 | apply IsS91.set_6 | apply IsS91.set_7 | apply IsS91.set_8 | apply IsS91.set_9) | exact HI0.out), by repeat (first | (with_reducible first | exact HB.out | apply below_alloc | apply pw_below_drewN | apply below_drew1 | refine below_set ?_ (IsS91.ge HI0.out)) | exact HB.out), by repeat (first | (with_reducible first | exact HK.out | apply KeepBut.set_ | apply keep_drewN | apply keep_drew | apply keep_alloc) | exact HK.out)⟩
  · rw [if_neg c2] at H
    have c2b0 : decide ((s0_0.length : Int) ≤ s0_5) = false := decide_eq_false c2
    clear c2
    obtain ⟨ji4, hji4⟩ : ∃ j_ : Int, (wrap64 ((s0_0.length : Int) - (wrap64 (s0_5 + 1)))) = j_ := ⟨_, rfl⟩
    replace H : (if 0 ≤ (ji4) then (if (ji4) < (s0_0.length : Int) then (some (IntKind.u64.wrap (rd s0_0 (ji4)), s0_1, s0_2, s0_3, s0_4, wrap64 (s0_5 + 1), s0_6, s0_7, s0_8, s0_9)) else (none)) else (none)) = some (r1, r2, r3, r4, r5, r6, r7, r8, r9, r10) := by first | (rw [hji4] at H; exact H) | (simp only [hji4] at H ⊢; exact H)
    have hji4w : (IntKind.i64.wrap ((s0_0.length : Int) - (wrap64 (s0_5 + 1)))) = ji4 := (i64_w _).trans hji4
    by_cases c5 : 0 ≤ (ji4)
    · rw [if_pos c5] at H
      have c5b0 : decide (0 ≤ (ji4)) = true := decide_eq_true c5
      clear c5
      by_cases c6 : (ji4) < (s0_0.length : Int)
      · rw [if_pos c6] at H
        have c6b0 : decide ((ji4) < (s0_0.length : Int)) = true := decide_eq_true c6
        clear c6
        simp only [Option.some.injEq, Prod.mk.injEq] at H
        obtain ⟨rfl, rfl, rfl, rfl, rfl, rfl, rfl, rfl, rfl, rfl⟩ := H
        obtain ⟨ASz7_0, cSz7_0, HGz7, hgz7, HSz7_0⟩ := HI0.out
        have hcz7_0 := cellS91_0 HGz7
        have hcz7_1 := cellS91_1 HGz7
        have hcz7_2 := cellS91_2 HGz7
        have hcz7_3 := cellS91_3 HGz7
        have hcz7_4 := cellS91_4 HGz7
        have hcz7_5 := cellS91_5 HGz7
        have hcz7_6 := cellS91_6 HGz7
        have hcz7_7 := cellS91_7 HGz7
        have hcz7_8 := cellS91_8 HGz7
        have hcz7_9 := cellS91_9 HGz7
        have hfz7_1 := blk_frozen HGz7 1
        have hfz7_2 := blk_frozen HGz7 2
        have hfz7_3 := blk_frozen HGz7 3
        have hfz7_4 := blk_frozen HGz7 4
        have hfz7_5 := blk_frozen HGz7 5
        have hfz7_6 := blk_frozen HGz7 6
        have hfz7_7 := blk_frozen HGz7 7
        have hfz7_8 := blk_frozen HGz7 8
        have hfz7_9 := blk_frozen HGz7 9
        clear HGz7 hgz7
        have p426 : 0 ≤ ((ji4) : Int) := of_decide_eq_true (by first | (with_reducible assumption) | assumption)
        have q426 : (ji4) < (s0_0.length : Int) := of_decide_eq_true (by first | (with_reducible assumption) | assumption)
        obtain ⟨ad426, e426, hx426_0⟩ := Kd.at_int HSz7_0 (ji4) p426 q426
        cases e426
        have hn426_0 : ad426.block ≠ g := Nat.ne_of_lt (Nat.lt_of_lt_of_le (by have := World.block_lt_of_cell? _ _ hx426_0; first | rwa [add_block] at this | exact this) (IsS91.ge HI0.out))
        replace hx426_0 := pw_cell_below HB.out hx426_0
        replace hx426_0 := (cell_far (p := ⟨g, 5, none⟩) (by first | (rw [add_block]; exact hn426_0) | (show (Addr.add _ _).block ≠ _; rw [add_block]; exact hn426_0) | exact hn426_0) (.int .i64 (wrap64 (s0_5 + 1)))).trans hx426_0
        (try have hy426_0 := fun (n_ : Nat) => (show (((w.drewN n_).setCell ⟨g, 5, none⟩ (.int .i64 (wrap64 (s0_5 + 1))))).cell? _ = some _ from hx426_0))
        clear hn426_0
        replace p426 := eq_true p426
        replace q426 := eq_true q426
        go_enter Try.func127, Try.ntmps127
        go_wp2
        repeat (go_quiet (fail); try go_wp2)
        go_ret
        exact ⟨by first | rfl | (simp [errW_none, errW_some] <;> rfl) | (simp only [← hji4]; first | rfl | (simp [errW_none, errW_some] <;> rfl)) | (simp [*, errW_none, errW_some] <;> rfl), by repeat (first | (with_reducible first | exact HI0.out | apply IsS91.alloc | apply IsS91.drewN | apply IsS91.drew | apply IsS91.set_1 | apply IsS91.set_2 | apply IsS91.set_3 | apply IsS91.set_4 | apply IsS91.set_5 | apply IsS91.set_6 | apply IsS91.set_7 | apply IsS91.set_8 | apply IsS91.set_9) | exact HI0.out), by repeat (first | (with_reducible first | exact HB.out | apply below_alloc | apply pw_below_drewN | apply below_drew1 | refine below_set ?_ (IsS91.ge HI0.out)) | exact HB.out), by repeat (first | (with_reducible first | exact HK.out | apply KeepBut.set_ | apply keep_drewN | apply keep_drew | apply keep_alloc) | exact HK.out)⟩
      · rw [if_neg c6] at H
        exact absurd H (by simp)
    · rw [if_neg c5] at H
      exact absurd H (by simp)

-- NOT PRINTED: function 89 (rc_Dec_Bits)

-- NOT PRINTED: function 81 (rc_Dec_Uint)

-- NOT PRINTED: function 86 (pulse_share)

-- NOT PRINTED: function 37 (pulse_Read)

def pulse_abs.f (a0 : Int) : Option (Int) := some (mx a0 (wrap64 (-a0)))
set_option maxHeartbeats 8000000 in
set_option maxRecDepth 100000 in
theorem pulse_abs.calls (a0 : Int) (r : Int) (w : World) (h : pulse_abs.f a0 = some r) :
    Calls Try.prog 128 #[.int .i64 a0] w fun e w' => e = .returned (.int .i64 r) ∧ Below w.heap.size w w' := by
  have HB := Aside0.mk (Below.refl w.heap.size w)
  have H : (some (mx a0 (wrap64 (-a0)))) = some r := h
  clear h
  obtain ⟨ji2, hji2⟩ : ∃ j_ : Int, (mx a0 (wrap64 (-a0))) = j_ := ⟨_, rfl⟩
  replace H : (some ji2) = some r := by first | (rw [hji2] at H; exact H) | (simp only [hji2] at H ⊢; exact H)
  have hji2_ : (if a0 < (wrap64 (-a0)) then (wrap64 (-a0)) else a0) = ji2 := hji2
  obtain rfl := Option.some.inj H
  go_enter Try.func128, Try.ntmps128
  go_wp2
  go_ret
  exact ⟨by first | rfl | (simp [errW_none, errW_some] <;> rfl) | (simp only [← hji2]; first | rfl | (simp [errW_none, errW_some] <;> rfl)) | (simp [*, errW_none, errW_some] <;> rfl), by repeat (first | (with_reducible first | exact HB.out | apply below_alloc | apply pw_below_drewN | apply below_drew1) | exact HB.out)⟩

def pulse_count.l0 : Nat → Int → List Int → Int → Int → Option (Int)
  | 0, _, _, _, _ => none
  | k + 1, x3, x6, x7, x8 => if x8 < x7 then (if 0 ≤ x8 then (if x8 < (x6.length : Int) then ((fix_Clamp.f k (rd x6 x8) (-32) 32).bind fun t499 => ((pulse_abs.f t499).bind fun t500 => (pulse_count.l0 k (wrap64 (x3 + t500)) x6 x7 (wrap64 (x8 + 1))))) else (none)) else (none)) else (some x3)
def pulse_count.f (k : Nat) (l0 : List Int) : Option (Int) := pulse_count.l0 k 0 l0 (l0.length : Int) 0
theorem pulse_count.mono_l : ∀ k, (∀ y0 y1 y2 y3, LeO (pulse_count.l0 k y0 y1 y2 y3) (pulse_count.l0 (k + 1) y0 y1 y2 y3))
  | 0 => fun _ _ _ _ r h => by simp [pulse_count.l0] at h
  | k + 1 => by
    have ih0 := pulse_count.mono_l k
    · intro y0 y1 y2 y3
      unfold pulse_count.l0
      repeat' first
      | (with_reducible exact ih0 _ _ _ _)
      | (with_reducible exact fix_Clamp.mono _ _ _ _)
      | (with_reducible exact LeO.refl _)
      | (with_reducible exact LeO.none _)
      | (with_reducible refine LeO.ite ?_ ?_)
      | (with_reducible refine LeO.bind ?_ (fun _ => ?_))
      | exact ih0 _ _ _ _
      | exact fix_Clamp.mono _ _ _ _
      | exact LeO.none _
      | refine LeO.ite ?_ ?_
      | refine LeO.bind ?_ (fun _ => ?_)
theorem pulse_count.mono : ∀ a0 k, LeO (pulse_count.f k a0) (pulse_count.f (k + 1) a0) := by
  intro a0 k
  have ih0 := pulse_count.mono_l k
  unfold pulse_count.f
  repeat' first
      | (with_reducible exact ih0 _ _ _ _)
      | (with_reducible exact fix_Clamp.mono _ _ _ _)
      | (with_reducible exact LeO.refl _)
      | (with_reducible exact LeO.none _)
      | (with_reducible refine LeO.ite ?_ ?_)
      | (with_reducible refine LeO.bind ?_ (fun _ => ?_))
      | exact ih0 _ _ _ _
      | exact fix_Clamp.mono _ _ _ _
      | exact LeO.none _
      | refine LeO.ite ?_ ?_
      | refine LeO.bind ?_ (fun _ => ?_)
set_option maxHeartbeats 8000000 in
set_option maxRecDepth 100000 in
theorem pulse_count.calls (k : Nat) (A0 : Option Addr) (c0 : Nat) (l0 : List Int) (r : Int) (w : World) (hr0 : Kd.C (Kd.int .i64) w A0 l0.length l0) (hc0 : l0.length ≤ c0) (h : pulse_count.f k l0 = some r) :
    Calls Try.prog 90 #[.slice A0 l0.length c0] w fun e w' => e = .returned (.int .i64 r) ∧ Below w.heap.size w w' := by
  have HR0 := Aside0.mk hr0
  have HC0 := Aside0.mk hc0
  clear hr0 hc0
  have HB := Aside0.mk (Below.refl w.heap.size w)
  have H : (pulse_count.l0 k 0 l0 (l0.length : Int) 0) = some r := h
  clear h
  have H' := Aside0.mk H
  clear H
  go_enter Try.func90, Try.ntmps90
  go_wp2
  go_loopg [3, 8] k (fun kq v3 v8 w' => ∃ (x3_1 : Int) (x8_1 : Int), v3 = .int .i64 x3_1 ∧ v8 = .int .i64 x8_1 ∧ Aside0 (pulse_count.l0 kq x3_1 l0 (l0.length : Int) x8_1 = some r) ∧ Aside0 (kq ≤ k) ∧ Aside0 (Below w.heap.size w w'))
  case atStart => exact ⟨(0), (0), (by first | rfl | (simp; done) | (simp [*]; done)), (by first | rfl | (simp; done) | (simp [*]; done)), H', ⟨Nat.le_refl _⟩, ⟨by repeat (first | (with_reducible first | exact HB.out | apply below_alloc | apply pw_below_drewN | apply below_drew1) | exact HB.out)⟩⟩
  case round =>
    clear H'
    obtain ⟨x3_1, x8_1, rfl, rfl, HA, HK1, HB⟩ := hrel
    cases gk with
    | zero => exact absurd HA.out (by simp [pulse_count.l0])
    | succ k1 =>
      have H := HA.out
      clear HA
      simp only [pulse_count.l0] at H
      by_cases c2 : x8_1 < (l0.length : Int)
      · rw [if_pos c2] at H
        have c2b0 : decide (x8_1 < (l0.length : Int)) = true := decide_eq_true c2
        clear c2
        by_cases c3 : 0 ≤ x8_1
        · rw [if_pos c3] at H
          have c3b0 : decide (0 ≤ x8_1) = true := decide_eq_true c3
          clear c3
          by_cases c4 : x8_1 < (l0.length : Int)
          · rw [if_pos c4] at H
            have c4b0 : decide (x8_1 < (l0.length : Int)) = true := decide_eq_true c4
            clear c4
            replace H := Option.bind_eq_some_iff.mp H
            obtain ⟨t499, A50, H⟩ := H
            replace H : ((pulse_abs.f t499).bind fun t500 => (pulse_count.l0 k1 (wrap64 (x3_1 + t500)) l0 (l0.length : Int) (wrap64 (x8_1 + 1)))) = some r := H
            have A5 := Aside0.mk A50
            clear A50
            replace H := Option.bind_eq_some_iff.mp H
            obtain ⟨t500, A60, H⟩ := H
            replace H : (pulse_count.l0 k1 (wrap64 (x3_1 + t500)) l0 (l0.length : Int) (wrap64 (x8_1 + 1))) = some r := H
            have A6 := Aside0.mk A60
            clear A60
            have H' := Aside0.mk H
            clear H
            have p498 : 0 ≤ (x8_1 : Int) := of_decide_eq_true (by first | (with_reducible assumption) | assumption)
            have q498 : x8_1 < (l0.length : Int) := of_decide_eq_true (by first | (with_reducible assumption) | assumption)
            obtain ⟨ad498, e498, hx498_0⟩ := Kd.at_int HR0.out x8_1 p498 q498
            cases e498
            replace hx498_0 := (HB.out.cell (World.block_lt_of_cell? w _ hx498_0)).trans hx498_0
            replace p498 := eq_true p498
            replace q498 := eq_true q498
            go_wp2_with (first | ((with_reducible refine gate_callee (f := 65) rfl ?_); refine goesL_ (some 14) rfl rfl Try.func65 (by kernel_rfl) rfl #[.int .i64 (rd l0 x8_1), .int .i64 (-32), .int .i64 32] rfl (by (try simp only [List.map_toArray, List.map_cons, List.map_nil]); first | done | rfl | (simp only [List.length_drop, List.length_take]; rfl)) ?_; (with_reducible refine (fix_Clamp.calls k1 (rd l0 x8_1) (-32) 32 t499 _ A5.out).mono ?_); rintro e w' ⟨rfl, ⟨nd, rfl⟩⟩; refine ⟨_, rfl, ?_⟩) | ((with_reducible refine gate_callee (f := 128) rfl ?_); refine goesL_ (some 15) rfl rfl Try.func128 (by kernel_rfl) rfl #[.int .i64 t499] rfl (by (try simp only [List.map_toArray, List.map_cons, List.map_nil]); first | done | rfl | (simp only [List.length_drop, List.length_take]; rfl)) ?_; (with_reducible refine (pulse_abs.calls t499 t500 _ A6.out).mono ?_); rintro e w7 ⟨rfl, hb⟩; refine ⟨_, rfl, ?_⟩; have n0_ := Aside0.mk (below_step (by repeat (first | (with_reducible first | exact HB.out | apply below_alloc | apply pw_below_drewN | apply below_drew1) | exact HB.out)) hb); clear HB; have HB := n0_; clear n0_; (try clear hb); (try clear hb2); (try clear hk); (try clear hi)))
            go_roundg k1
            case measure => have := HK1.out; omega
            case rel => exact ⟨(wrap64 (x3_1 + t500)), (wrap64 (x8_1 + 1)), (by first | rfl | (simp; done) | (simp [*]; done)), (by first | rfl | (simp; done) | (simp [*]; done)), H', ⟨by have := HK1.out; omega⟩, ⟨by repeat (first | (with_reducible first | exact HB.out | apply below_alloc | apply pw_below_drewN | apply below_drew1) | exact HB.out)⟩⟩
          · rw [if_neg c4] at H
            exact absurd H (by simp)
        · rw [if_neg c3] at H
          exact absurd H (by simp)
      · rw [if_neg c2] at H
        have c2b0 : decide (x8_1 < (l0.length : Int)) = false := decide_eq_false c2
        clear c2
        obtain rfl := Option.some.inj H
        go_wp2
        go_ret
        exact ⟨by first | rfl | (simp [errW_none, errW_some] <;> rfl) | (simp [*, errW_none, errW_some] <;> rfl), by repeat (first | (with_reducible first | exact HB.out | apply below_alloc | apply pw_below_drewN | apply below_drew1) | exact HB.out)⟩

def pulse_Good.l0 : Nat → List Int → Int → Option (Bool)
  | 0, _, _ => none
  | k + 1, x0, x3 => if x3 < (x0.length : Int) then (if 0 ≤ x3 then (if x3 ≤ (wrap64 (x3 + 16)) then (if (wrap64 (x3 + 16)) ≤ (x0.length : Int) then ((pulse_count.f k ((x0.take ((wrap64 (x3 + 16)) : Int).toNat).drop (x3 : Int).toNat)).bind fun t503 => (if t503 > 16 then (some false) else (pulse_Good.l0 k x0 (wrap64 (x3 + 16))))) else (none)) else (none)) else (none)) else (some true)
def pulse_Good.f (k : Nat) (l0 : List Int) : Option (Bool) := (pulse_may.f (l0.length : Int)).bind fun t501 => (if t501 = true then (pulse_Good.l0 k l0 0) else (some false))
theorem pulse_Good.mono_l : ∀ k, (∀ y0 y1, LeO (pulse_Good.l0 k y0 y1) (pulse_Good.l0 (k + 1) y0 y1))
  | 0 => fun _ _ r h => by simp [pulse_Good.l0] at h
  | k + 1 => by
    have ih0 := pulse_Good.mono_l k
    · intro y0 y1
      unfold pulse_Good.l0
      repeat' first
      | (with_reducible exact ih0 _ _)
      | (with_reducible exact pulse_count.mono _ _)
      | (with_reducible exact LeO.refl _)
      | (with_reducible exact LeO.none _)
      | (with_reducible refine LeO.ite ?_ ?_)
      | (with_reducible refine LeO.bind ?_ (fun _ => ?_))
      | exact ih0 _ _
      | exact pulse_count.mono _ _
      | exact LeO.none _
      | refine LeO.ite ?_ ?_
      | refine LeO.bind ?_ (fun _ => ?_)
theorem pulse_Good.mono : ∀ a0 k, LeO (pulse_Good.f k a0) (pulse_Good.f (k + 1) a0) := by
  intro a0 k
  have ih0 := pulse_Good.mono_l k
  unfold pulse_Good.f
  repeat' first
      | (with_reducible exact ih0 _ _)
      | (with_reducible exact pulse_count.mono _ _)
      | (with_reducible exact LeO.refl _)
      | (with_reducible exact LeO.none _)
      | (with_reducible refine LeO.ite ?_ ?_)
      | (with_reducible refine LeO.bind ?_ (fun _ => ?_))
      | exact ih0 _ _
      | exact pulse_count.mono _ _
      | exact LeO.none _
      | refine LeO.ite ?_ ?_
      | refine LeO.bind ?_ (fun _ => ?_)
set_option maxHeartbeats 8000000 in
set_option maxRecDepth 100000 in
theorem pulse_Good.calls (k : Nat) (A0 : Option Addr) (c0 : Nat) (l0 : List Int) (r : Bool) (w : World) (hr0 : Kd.C (Kd.int .i64) w A0 l0.length l0) (hc0 : l0.length ≤ c0) (h : pulse_Good.f k l0 = some r) :
    Calls Try.prog 39 #[.slice A0 l0.length c0] w fun e w' => e = .returned (.bool r) ∧ Below w.heap.size w w' := by
  have HR0 := Aside0.mk hr0
  have HC0 := Aside0.mk hc0
  clear hr0 hc0
  have HB := Aside0.mk (Below.refl w.heap.size w)
  have H : ((pulse_may.f (l0.length : Int)).bind fun t501 => (if t501 = true then (pulse_Good.l0 k l0 0) else (some false))) = some r := h
  clear h
  replace H := Option.bind_eq_some_iff.mp H
  obtain ⟨t501, A20, H⟩ := H
  replace H : (if t501 = true then (pulse_Good.l0 k l0 0) else (some false)) = some r := H
  have A2 := Aside0.mk A20
  clear A20
  by_cases c3 : t501 = true
  · subst c3
    have H1 : (pulse_Good.l0 k l0 0) = some r := by rw [if_pos rfl] at H; exact H
    clear H
    have H := H1
    clear H1
    have H' := Aside0.mk H
    clear H
    go_enter Try.func39, Try.ntmps39
    go_wp2_with (first | ((with_reducible refine gate_callee (f := 85) rfl ?_); refine goesL_ (some 6) rfl rfl Try.func85 (by kernel_rfl) rfl #[.int .i64 (l0.length : Int)] rfl (by (try simp only [List.map_toArray, List.map_cons, List.map_nil]); first | done | rfl | (simp only [List.length_drop, List.length_take]; rfl)) ?_; (with_reducible refine (pulse_may.calls (l0.length : Int) true _ A2.out).mono ?_); rintro e w' ⟨rfl, ⟨nd, rfl⟩⟩; refine ⟨_, rfl, ?_⟩))
    go_loopg [3] k (fun kq v3 w' => ∃ (x3_1 : Int), v3 = .int .i64 x3_1 ∧ Aside0 (pulse_Good.l0 kq l0 x3_1 = some r) ∧ Aside0 (kq ≤ k) ∧ Aside0 (Below w.heap.size w w'))
    case atStart => exact ⟨(0), (by first | rfl | (simp; done) | (simp [*]; done)), H', ⟨Nat.le_refl _⟩, ⟨by repeat (first | (with_reducible first | exact HB.out | apply below_alloc | apply pw_below_drewN | apply below_drew1) | exact HB.out)⟩⟩
    case round =>
      clear H'
      try clear p2
      try clear c3
      obtain ⟨x3_1, rfl, HA, HK1, HB⟩ := hrel
      cases gk with
      | zero => exact absurd HA.out (by simp [pulse_Good.l0])
      | succ k1 =>
        have H := HA.out
        clear HA
        simp only [pulse_Good.l0] at H
        by_cases c4 : x3_1 < (l0.length : Int)
        · rw [if_pos c4] at H
          have c4b0 : decide (x3_1 < (l0.length : Int)) = true := decide_eq_true c4
          clear c4
          by_cases c5 : 0 ≤ x3_1
          · rw [if_pos c5] at H
            have c5b0 := eq_true c5
            have c5b1 : decide (0 ≤ x3_1) = true := decide_eq_true c5
            clear c5
            by_cases c6 : x3_1 ≤ (wrap64 (x3_1 + 16))
            · rw [if_pos c6] at H
              have c6b0 := eq_true c6
              have c6b1 : decide (x3_1 ≤ (wrap64 (x3_1 + 16))) = true := decide_eq_true c6
              by_cases c7 : (wrap64 (x3_1 + 16)) ≤ (l0.length : Int)
              · rw [if_pos c7] at H
                have c7b0 := eq_true c7
                have c7b1 : decide ((wrap64 (x3_1 + 16)) ≤ (l0.length : Int)) = true := decide_eq_true c7
                replace H := Option.bind_eq_some_iff.mp H
                obtain ⟨t503, A80, H⟩ := H
                replace H : (if t503 > 16 then (some false) else (pulse_Good.l0 k1 l0 (wrap64 (x3_1 + 16)))) = some r := H
                have A8 := Aside0.mk A80
                clear A80
                by_cases c9 : t503 > 16
                · rw [if_pos c9] at H
                  have c9b0 : decide (16 < t503) = true := decide_eq_true c9
                  clear c9
                  obtain rfl := Option.some.inj H
                  obtain ⟨i010, hi010, _, hsz10, _⟩ := info_parts info2
                  obtain ⟨A10, hcut10, hA10, hC10⟩ := print_mid_of (P := Try.prog) (Value.int .i64) 0 45 2 .i64 .i64 Try.underlying45 hi010 hsz10 A0 c0 l0 x3_1 (wrap64 (x3_1 + 16)) (of_decide_eq_true (by first | (with_reducible assumption) | assumption)) (by first | omega | exact of_decide_eq_true (by first | (with_reducible assumption) | assumption)) (of_decide_eq_true (by first | (with_reducible assumption) | assumption)) HC0.out
                  have HR502 := Aside0.mk (Kd.C_of_reads (h1 := fun _ => rfl) (hA10 _ (Kd.reads_of_C HR0.out)))
                  have HC502 := Aside0.mk hC10
                  clear hA10 hC10 hi010 hsz10
                  go_wp2_with (first | ((with_reducible refine gate_callee (f := 90) rfl ?_); refine goesL_ (some 19) rfl rfl Try.func90 (by kernel_rfl) rfl #[.slice A10 ((l0.take ((wrap64 (x3_1 + 16)) : Int).toNat).drop (x3_1 : Int).toNat).length (c0 - x3_1.toNat)] rfl (by (try simp only [List.map_toArray, List.map_cons, List.map_nil]); first | done | (rw [show ((l0.take ((wrap64 (x3_1 + 16)) : Int).toNat).drop (x3_1 : Int).toNat).length = ((wrap64 (x3_1 + 16)).toNat - x3_1.toNat) from (by rw [List.length_drop, List.length_take]; have h_ : ((wrap64 (x3_1 + 16)) : Int) ≤ (l0.length : Int) := of_decide_eq_true (by first | (with_reducible assumption) | assumption); omega)] <;> rfl) | rfl | (simp only [List.length_drop, List.length_take]; rfl)) ?_; (with_reducible refine (pulse_count.calls k1 _ _ ((l0.take ((wrap64 (x3_1 + 16)) : Int).toNat).drop (x3_1 : Int).toNat) t503 _ ?side1 ?side2 A8.out).mono ?_); (case side1 => repeat (first | exact (Kd.C_below HR502.out HB.out) | (with_reducible refine Kd.C_alloc ?_ _) | (with_reducible refine Kd.C_drewN ?_ _) | (with_reducible refine Kd.C_drew ?_))); (case side2 => exact HC502.out); rintro e w11 ⟨rfl, hb⟩; refine ⟨_, rfl, ?_⟩; have n0_ := Aside0.mk (below_step (by repeat (first | (with_reducible first | exact HB.out | apply below_alloc | apply pw_below_drewN | apply below_drew1) | exact HB.out)) hb); clear HB; have HB := n0_; clear n0_; (try clear hb); (try clear hb2); (try clear hk); (try clear hi)))
                  go_ret
                  exact ⟨by first | rfl | (simp [errW_none, errW_some] <;> rfl) | (simp [*, errW_none, errW_some] <;> rfl), by repeat (first | (with_reducible first | exact HB.out | apply below_alloc | apply pw_below_drewN | apply below_drew1) | exact HB.out)⟩
                · rw [if_neg c9] at H
                  have c9b0 : decide (16 < t503) = false := decide_eq_false c9
                  clear c9
                  have H' := Aside0.mk H
                  clear H
                  obtain ⟨i012, hi012, _, hsz12, _⟩ := info_parts info2
                  obtain ⟨A12, hcut12, hA12, hC12⟩ := print_mid_of (P := Try.prog) (Value.int .i64) 0 45 2 .i64 .i64 Try.underlying45 hi012 hsz12 A0 c0 l0 x3_1 (wrap64 (x3_1 + 16)) (of_decide_eq_true (by first | (with_reducible assumption) | assumption)) (by first | omega | exact of_decide_eq_true (by first | (with_reducible assumption) | assumption)) (of_decide_eq_true (by first | (with_reducible assumption) | assumption)) HC0.out
                  have HR502 := Aside0.mk (Kd.C_of_reads (h1 := fun _ => rfl) (hA12 _ (Kd.reads_of_C HR0.out)))
                  have HC502 := Aside0.mk hC12
                  clear hA12 hC12 hi012 hsz12
                  go_wp2_with (first | ((with_reducible refine gate_callee (f := 90) rfl ?_); refine goesL_ (some 19) rfl rfl Try.func90 (by kernel_rfl) rfl #[.slice A12 ((l0.take ((wrap64 (x3_1 + 16)) : Int).toNat).drop (x3_1 : Int).toNat).length (c0 - x3_1.toNat)] rfl (by (try simp only [List.map_toArray, List.map_cons, List.map_nil]); first | done | (rw [show ((l0.take ((wrap64 (x3_1 + 16)) : Int).toNat).drop (x3_1 : Int).toNat).length = ((wrap64 (x3_1 + 16)).toNat - x3_1.toNat) from (by rw [List.length_drop, List.length_take]; have h_ : ((wrap64 (x3_1 + 16)) : Int) ≤ (l0.length : Int) := of_decide_eq_true (by first | (with_reducible assumption) | assumption); omega)] <;> rfl) | rfl | (simp only [List.length_drop, List.length_take]; rfl)) ?_; (with_reducible refine (pulse_count.calls k1 _ _ ((l0.take ((wrap64 (x3_1 + 16)) : Int).toNat).drop (x3_1 : Int).toNat) t503 _ ?side1 ?side2 A8.out).mono ?_); (case side1 => repeat (first | exact (Kd.C_below HR502.out HB.out) | (with_reducible refine Kd.C_alloc ?_ _) | (with_reducible refine Kd.C_drewN ?_ _) | (with_reducible refine Kd.C_drew ?_))); (case side2 => exact HC502.out); rintro e w13 ⟨rfl, hb⟩; refine ⟨_, rfl, ?_⟩; have n0_ := Aside0.mk (below_step (by repeat (first | (with_reducible first | exact HB.out | apply below_alloc | apply pw_below_drewN | apply below_drew1) | exact HB.out)) hb); clear HB; have HB := n0_; clear n0_; (try clear hb); (try clear hb2); (try clear hk); (try clear hi)))
                  go_roundg k1
                  case measure => have := HK1.out; omega
                  case rel => exact ⟨(wrap64 (x3_1 + 16)), (by first | rfl | (simp; done) | (simp [*]; done)), H', ⟨by have := HK1.out; omega⟩, ⟨by repeat (first | (with_reducible first | exact HB.out | apply below_alloc | apply pw_below_drewN | apply below_drew1) | exact HB.out)⟩⟩
              · rw [if_neg c7] at H
                exact absurd H (by simp)
            · rw [if_neg c6] at H
              exact absurd H (by simp)
          · rw [if_neg c5] at H
            exact absurd H (by simp)
        · rw [if_neg c4] at H
          have c4b0 : decide (x3_1 < (l0.length : Int)) = false := decide_eq_false c4
          clear c4
          obtain rfl := Option.some.inj H
          go_wp2
          go_ret
          exact ⟨by first | rfl | (simp [errW_none, errW_some] <;> rfl) | (simp [*, errW_none, errW_some] <;> rfl), by repeat (first | (with_reducible first | exact HB.out | apply below_alloc | apply pw_below_drewN | apply below_drew1) | exact HB.out)⟩
  · replace c3 := Bool.eq_false_iff.mpr c3
    subst c3
    have H1 : (some false) = some r := by rw [if_neg (show ¬ (false = true) by decide)] at H; exact H
    clear H
    have H := H1
    clear H1
    obtain rfl := Option.some.inj H
    go_enter Try.func39, Try.ntmps39
    go_wp2_with (first | ((with_reducible refine gate_callee (f := 85) rfl ?_); refine goesL_ (some 6) rfl rfl Try.func85 (by kernel_rfl) rfl #[.int .i64 (l0.length : Int)] rfl (by (try simp only [List.map_toArray, List.map_cons, List.map_nil]); first | done | rfl | (simp only [List.length_drop, List.length_take]; rfl)) ?_; (with_reducible refine (pulse_may.calls (l0.length : Int) false _ A2.out).mono ?_); rintro e w' ⟨rfl, ⟨nd, rfl⟩⟩; refine ⟨_, rfl, ?_⟩))
    go_ret
    exact ⟨by first | rfl | (simp [errW_none, errW_some] <;> rfl) | (simp [*, errW_none, errW_some] <;> rfl), by repeat (first | (with_reducible first | exact HB.out | apply below_alloc | apply pw_below_drewN | apply below_drew1) | exact HB.out)⟩

-- NOT PRINTED: function 92 (pulse_spread)

-- NOT PRINTED: function 93 (pulse_signs)

-- NOT PRINTED: function 40 (pulse_Write)

-- NOT PRINTED: function 148 (heap_up)

-- NOT PRINTED: function 131 (heap_Push)

-- NOT PRINTED: function 149 (heap_down)

-- NOT PRINTED: function 132 (heap_Fix)

-- NOT PRINTED: function 94 (pulse_thin)

-- NOT PRINTED: function 42 (pulse_Fewer)

def madrigallaw9_same.l0 : Nat → List Int → List Int → Int → Option (Bool)
  | 0, _, _, _ => none
  | k + 1, x0, x1, x5 => if x5 < (x0.length : Int) then (if 0 ≤ x5 then (if x5 < (x1.length : Int) then (if (rd x0 x5) = (rd x1 x5) then (madrigallaw9_same.l0 k x0 x1 (wrap64 (x5 + 1))) else (some false)) else (none)) else (none)) else (some true)
def madrigallaw9_same.f (k : Nat) (l0 : List Int) (l1 : List Int) : Option (Bool) := if (l0.length : Int) = (l1.length : Int) then (madrigallaw9_same.l0 k l0 l1 0) else (some false)
theorem madrigallaw9_same.mono_l : ∀ k, (∀ y0 y1 y2, LeO (madrigallaw9_same.l0 k y0 y1 y2) (madrigallaw9_same.l0 (k + 1) y0 y1 y2))
  | 0 => fun _ _ _ r h => by simp [madrigallaw9_same.l0] at h
  | k + 1 => by
    have ih0 := madrigallaw9_same.mono_l k
    · intro y0 y1 y2
      unfold madrigallaw9_same.l0
      repeat' first
      | (with_reducible exact ih0 _ _ _)
      | (with_reducible exact LeO.refl _)
      | (with_reducible exact LeO.none _)
      | (with_reducible refine LeO.ite ?_ ?_)
      | (with_reducible refine LeO.bind ?_ (fun _ => ?_))
      | exact ih0 _ _ _
      | exact LeO.none _
      | refine LeO.ite ?_ ?_
      | refine LeO.bind ?_ (fun _ => ?_)
theorem madrigallaw9_same.mono : ∀ a0 a1 k, LeO (madrigallaw9_same.f k a0 a1) (madrigallaw9_same.f (k + 1) a0 a1) := by
  intro a0 a1 k
  have ih0 := madrigallaw9_same.mono_l k
  unfold madrigallaw9_same.f
  repeat' first
      | (with_reducible exact ih0 _ _ _)
      | (with_reducible exact LeO.refl _)
      | (with_reducible exact LeO.none _)
      | (with_reducible refine LeO.ite ?_ ?_)
      | (with_reducible refine LeO.bind ?_ (fun _ => ?_))
      | exact ih0 _ _ _
      | exact LeO.none _
      | refine LeO.ite ?_ ?_
      | refine LeO.bind ?_ (fun _ => ?_)
set_option maxHeartbeats 8000000 in
set_option maxRecDepth 100000 in
theorem madrigallaw9_same.calls (k : Nat) (A0 : Option Addr) (c0 : Nat) (l0 : List Int) (A1 : Option Addr) (c1 : Nat) (l1 : List Int) (r : Bool) (w : World) (hr0 : Kd.C (Kd.int .i64) w A0 l0.length l0) (hc0 : l0.length ≤ c0) (hr1 : Kd.C (Kd.int .i64) w A1 l1.length l1) (hc1 : l1.length ≤ c1) (h : madrigallaw9_same.f k l0 l1 = some r) :
    Calls Try.prog 45 #[.slice A0 l0.length c0, .slice A1 l1.length c1] w fun e w' => e = .returned (.bool r) ∧ Drawn0 w w' := by
  have HR0 := Aside0.mk hr0
  have HC0 := Aside0.mk hc0
  clear hr0 hc0
  have HR1 := Aside0.mk hr1
  have HC1 := Aside0.mk hc1
  clear hr1 hc1
  have H : (if (l0.length : Int) = (l1.length : Int) then (madrigallaw9_same.l0 k l0 l1 0) else (some false)) = some r := h
  clear h
  by_cases c3 : (l0.length : Int) = (l1.length : Int)
  · rw [if_pos c3] at H
    have c3b0 : ((l0.length : Int) == (l1.length : Int)) = true := beq_iff_eq.mpr c3
    have c3b1 : ((l0.length : Int) != (l1.length : Int)) = false := bne_eq_false_iff_eq.mpr c3
    have c3b2 : (l0.length == l1.length) = true := by first | simpa using c3 | (simp at c3 ⊢; omega)
    clear c3
    have H' := Aside0.mk H
    clear H
    go_enter Try.func45, Try.ntmps45
    go_wp2
    repeat (go_quiet (fail); try go_wp2)
    go_loopg [5] k (fun kq v5 w' => ∃ (x5_1 : Int), v5 = .int .i64 x5_1 ∧ Aside0 (madrigallaw9_same.l0 kq l0 l1 x5_1 = some r) ∧ Aside0 (kq ≤ k) ∧ Drawn0 w w')
    case atStart => exact ⟨(0), (by first | rfl | (simp; done) | (simp [*]; done)), H', ⟨Nat.le_refl _⟩, by repeat (first | exact Drawn0.refl _ | apply Drawn0.step)⟩
    case round =>
      clear H'
      try clear c1
      try clear p2
      try clear c3
      try clear c3b0
      try clear c3b1
      try clear c3b2
      obtain ⟨x5_1, rfl, HA, HK1, ⟨m1, rfl⟩⟩ := hrel
      cases gk with
      | zero => exact absurd HA.out (by simp [madrigallaw9_same.l0])
      | succ k1 =>
        have H := HA.out
        clear HA
        simp only [madrigallaw9_same.l0] at H
        by_cases c4 : x5_1 < (l0.length : Int)
        · rw [if_pos c4] at H
          have c4b0 : decide (x5_1 < (l0.length : Int)) = true := decide_eq_true c4
          clear c4
          by_cases c5 : 0 ≤ x5_1
          · rw [if_pos c5] at H
            have c5b0 : decide (0 ≤ x5_1) = true := decide_eq_true c5
            clear c5
            by_cases c6 : x5_1 < (l1.length : Int)
            · rw [if_pos c6] at H
              have c6b0 : decide (x5_1 < (l1.length : Int)) = true := decide_eq_true c6
              clear c6
              by_cases c7 : (rd l0 x5_1) = (rd l1 x5_1)
              · rw [if_pos c7] at H
                have c7b0 : ((rd l0 x5_1) == (rd l1 x5_1)) = true := beq_iff_eq.mpr c7
                have c7b1 : ((rd l0 x5_1) != (rd l1 x5_1)) = false := bne_eq_false_iff_eq.mpr c7
                clear c7
                have H' := Aside0.mk H
                clear H
                have p525 : 0 ≤ (x5_1 : Int) := of_decide_eq_true (by first | (with_reducible assumption) | assumption)
                have q525 : x5_1 < (l0.length : Int) := of_decide_eq_true (by first | (with_reducible assumption) | assumption)
                obtain ⟨ad525, e525, hx525_0⟩ := Kd.at_int HR0.out x5_1 p525 q525
                cases e525
                replace p525 := eq_true p525
                replace q525 := eq_true q525
                have p526 : 0 ≤ (x5_1 : Int) := of_decide_eq_true (by first | (with_reducible assumption) | assumption)
                have q526 : x5_1 < (l1.length : Int) := of_decide_eq_true (by first | (with_reducible assumption) | assumption)
                obtain ⟨ad526, e526, hx526_0⟩ := Kd.at_int HR1.out x5_1 p526 q526
                cases e526
                replace p526 := eq_true p526
                replace q526 := eq_true q526
                go_wp2
                repeat (go_quiet (fail); try go_wp2)
                go_roundg k1
                case measure => have := HK1.out; omega
                case rel => exact ⟨(wrap64 (x5_1 + 1)), (by first | rfl | (simp; done) | (simp [*]; done)), H', ⟨by have := HK1.out; omega⟩, by repeat (first | exact Drawn0.refl _ | apply Drawn0.step)⟩
              · rw [if_neg c7] at H
                have c7b0 : ((rd l0 x5_1) == (rd l1 x5_1)) = false := beq_eq_false_iff_ne.mpr c7
                have c7b1 : ((rd l0 x5_1) != (rd l1 x5_1)) = true := bne_iff_ne.mpr c7
                obtain rfl := Option.some.inj H
                have p525 : 0 ≤ (x5_1 : Int) := of_decide_eq_true (by first | (with_reducible assumption) | assumption)
                have q525 : x5_1 < (l0.length : Int) := of_decide_eq_true (by first | (with_reducible assumption) | assumption)
                obtain ⟨ad525, e525, hx525_0⟩ := Kd.at_int HR0.out x5_1 p525 q525
                cases e525
                replace p525 := eq_true p525
                replace q525 := eq_true q525
                have p526 : 0 ≤ (x5_1 : Int) := of_decide_eq_true (by first | (with_reducible assumption) | assumption)
                have q526 : x5_1 < (l1.length : Int) := of_decide_eq_true (by first | (with_reducible assumption) | assumption)
                obtain ⟨ad526, e526, hx526_0⟩ := Kd.at_int HR1.out x5_1 p526 q526
                cases e526
                replace p526 := eq_true p526
                replace q526 := eq_true q526
                go_wp2
                repeat (go_quiet (fail); try go_wp2)
                go_ret
                exact ⟨by first | rfl | (simp; done) | (simp [*]; done), by repeat (first | exact Drawn0.refl _ | apply Drawn0.step)⟩
            · rw [if_neg c6] at H
              exact absurd H (by simp)
          · rw [if_neg c5] at H
            exact absurd H (by simp)
        · rw [if_neg c4] at H
          have c4b0 : decide (x5_1 < (l0.length : Int)) = false := decide_eq_false c4
          clear c4
          obtain rfl := Option.some.inj H
          go_wp2
          repeat (go_quiet (fail); try go_wp2)
          go_ret
          exact ⟨by first | rfl | (simp; done) | (simp [*]; done), by repeat (first | exact Drawn0.refl _ | apply Drawn0.step)⟩
  · rw [if_neg c3] at H
    have c3b0 : ((l0.length : Int) == (l1.length : Int)) = false := beq_eq_false_iff_ne.mpr c3
    have c3b1 : ((l0.length : Int) != (l1.length : Int)) = true := bne_iff_ne.mpr c3
    have c3b2 : (l0.length == l1.length) = false := by first | simpa using c3 | (simp at c3 ⊢; omega)
    obtain rfl := Option.some.inj H
    go_enter Try.func45, Try.ntmps45
    go_wp2
    repeat (go_quiet (fail); try go_wp2)
    go_ret
    exact ⟨by first | rfl | (simp; done) | (simp [*]; done), by repeat (first | exact Drawn0.refl _ | apply Drawn0.step)⟩

-- NOT PRINTED: function 36 (madrigallaw9_awake)

-- NOT PRINTED: function 5 (madrigallaw9_PulseKnown)

def madrigalref17_size.f (a0 : Int) : Option (Int) := if a0 < 0 then (some (wrap64 (-a0))) else (some a0)
end Go.Proofs.Ytiabenmgbikllaa.PAll
