/- Contracts of the program's functions and plain laws for the law GainReads, several texts in one (part 5). Conditions: each theorem's own. -/
import Derived.Test.YtiabenmgbikllaaQGainReadsd
import Derived.Outline
import Derived.Deep.RegionHeld3
import Derived.Test.YtiabenmgbikllaaQGainReadsa
import Derived.Test.YtiabenmgbikllaaWSized
import Derived.ProofKit
import Derived.OpenShut
import Derived.ChangeOld
import Derived.Below
import Derived.SizedLaws
-- Great numbers are read by the document's own reader. Conditions: bounds on the numbers.
namespace Go.Proofs.Ytiabenmgbikllaa.M
set_option linter.unusedVariables false
open Go.RowKit Go.Proofs.YtiabenmgbikllaaW.PrintWords Go.Proofs.YtiabenmgbikllaaW.PrintLast Go.Proofs.YtiabenmgbikllaaW.PrintMore Go.Proofs.Ytiabenmgbikllaa.PAll
attribute [local go_sem] max2_int min2_int max_two min_two max_three min_three max_four min_four

set_option maxHeartbeats 2000000 in
set_option maxRecDepth 100000 in
theorem rbig_calls (w0 w : World) (g : Nat) (d : D) (ft : Int) (h : RefAt w0 w g d) (hd : DOk d) (hr : DRaw d) (f0 : 257 ≤ ft) (f1 : ft ≤ 4294967295) (hk : d.count ≤ 800000000000000000) :
    Calls Try.prog 25 #[.pointer (some ⟨g, 0, none⟩), .int .i64 ft] w fun r w' => r = .returned (.int .i64 (d.bigV ft)) ∧ RefAt w0 w' g (d.bigD ft) ∧ Chg w w' (One g) := by
  obtain ⟨n1, n2, n3, n4, n5, n6⟩ := bB_ok ft f0 f1
  obtain ⟨v1, v2, v3, v4, v5, v6, v7, v8, v9, v10, v11, v12⟩ := bigV0_ok d hd hr ft f0 f1 hk
  have hp := small_place d hd (bF ft) (by omega) (by omega)
  have hs := small_ok d hd (bF ft) (by omega) (by omega) (by omega)
  have HH := Aside0.mk (And.intro h (And.intro hd (And.intro hr (And.intro hp (And.intro hs (small_raw d hr (bF ft)))))))
  have hc1 : (d.small (bF ft)).count ≤ 900000000000000000 := by have := hs.2.1; omega
  clear h hd hr hp hs v9 v10 v11 v12
  have b1 : decide (ft < 1) = false := decide_eq_false (by omega)
  have b1' : (ft == 1) = false := by simp; omega
  have b2 : decide (4294967295 < ft) = false := decide_eq_false (by omega)
  have b3 : decide (ft ≤ 256) = false := decide_eq_false (by omega)
  have u1 : IntKind.u64.wrap (ft - 1) = ft - 1 := wraps_u64 _ (by omega) (by omega)
  have u2 : IntKind.u64.wrap (bF ft) = bF ft := wraps_u64 _ (by omega) (by omega)
  have u3 : IntKind.u64.wrap (d.choose (bF ft) + 1) = d.choose (bF ft) + 1 := wraps_u64 _ (by omega) (by omega)
  obtain ⟨L, hL⟩ : ∃ L, L = Lib.bitLen (ft - 1).toNat := ⟨_, rfl⟩
  rw [← hL] at n1
  go_enter Try.func25, Try.ntmps25
  go_wp2_with fail

  refine (madrigalref1_Len.calls 70 (ft - 1) _ _ (len_f (ft - 1) (by omega) (by omega))).mono ?_
  rintro r w1 ⟨rfl, hd1⟩
  obtain ⟨n0, rfl⟩ := hd1.out
  have hw1 : Aside0 (Chg w (w.drewN n0) (One g)) := ⟨(Chg.refl w _).drewN n0⟩
  rw [← hL, n1]
  have uB : IntKind.u64.wrap (bB ft : Int) = (bB ft : Int) := wraps_u64 _ (by omega) (by omega)
  go_wp2_with fail
  refine (rchoose_calls w0 (w.drewN n0) g d (bF ft) (HH.out.1.chg (S := No) ((Chg.refl w No).drewN n0) (fun h => h) (fun _ h => False.elim h)) HH.out.2.1 (by omega) (by omega)).mono ?_
  rintro r w2 ⟨rfl, h2, k2⟩
  have H2 := Aside0.mk (And.intro h2 k2)
  clear h2 k2
  have s1 : IntKind.i64.wrap (d.choose (bF ft) * 2 ^ bB ft) = d.choose (bF ft) * 2 ^ bB ft := by rw [IntKind.wrap_i64]; omega
  have s2 : IntKind.i64.wrap (d.choose (bF ft)) = d.choose (bF ft) := by rw [IntKind.wrap_i64]; omega
  go_wp2_with fail
  refine (rtake_calls w0 w2 g d (d.choose (bF ft)) (d.choose (bF ft) + 1) (bF ft) H2.out.1 HH.out.2.1 HH.out.2.2.2.1 (by omega)).mono ?_
  rintro r w3 ⟨rfl, h3, k3⟩
  have H3 : Aside0 (RefAt w0 w3 g (d.small (bF ft)) ∧ Chg (w.drewN n0) w3 (One g)) := ⟨h3, H2.out.2.trans k3 (Ext.refl _ _)⟩
  clear H2 h3 k3
  go_wp2_with fail
  obtain ⟨V, hV⟩ : ∃ V, V = (d.small (bF ft)).bitsV (bB ft) := ⟨_, rfl⟩
  obtain ⟨X, hX⟩ : ∃ X, X = d.choose (bF ft) * 2 ^ bB ft := ⟨_, rfl⟩
  have h0 : Aside0 (d.bigV0 ft = X + V) := ⟨by unfold D.bigV0; rw [hX, hV]⟩
  have HV := Aside0.mk hV
  rw [← hV] at v3 v4
  rw [← hX] at v7 v8 s1
  have hX' := hX.symm
  have HX := Aside0.mk hX
  have hor : bits .or .i64 X V = X + V := by
    rw [hX]
    exact bits_join .i64 63 (by decide) (fun n a b => by rw [IntKind.wrap_i64]; omega) (bB ft) _ V (by rw [← hX]; omega) (Int.mul_emod_left _ _) (by rw [← hX]; omega) v3 v4 (by omega)
  clear hV hX
  by_cases hlt : ft ≤ X + V
  · have b4 : decide (ft ≤ X + V) = true := decide_eq_true hlt
    have e1 : Aside0 (d.bigV ft = ft - 1 ∧ d.bigD ft = { (d.small (bF ft)).bits (bB ft) with bad := true }) := ⟨by unfold D.bigV D.bigD; rw [h0.out, if_pos hlt, if_pos hlt]; exact ⟨rfl, rfl⟩⟩
    go_wp2_with (
      (go_at_call 78
       refine (rbits_calls w0 _ g (d.small (bF ft)) (bB ft : Int) (H3.out.1.chg (S := No) (by repeat (first | exact Chg.refl _ No | apply Chg.drew | apply Chg.drewN)) (fun h => h) (fun _ h => False.elim h)) HH.out.2.2.2.2.1.1 HH.out.2.2.2.2.2 (by omega) (by omega) (by omega)).mono ?_
       rintro r w4 ⟨rfl, h4, k4⟩
       rw [← HV.out]
       have H4 : Aside0 (RefAt w0 w4 g ((d.small (bF ft)).bits (bB ft)) ∧ Chg (w.drewN n0) w4 (One g)) := ⟨h4, H3.out.2.trans k4 (Ext.refl _ _)⟩
       clear h4 k4
       obtain ⟨e4, H5⟩ : ∃ e4, Aside0 (RefE w0 w4 g ((d.small (bF ft)).bits (bB ft)) e4) := H4.out.1.elim fun e h => ⟨e, ⟨h⟩⟩
       obtain ⟨⟨A, c, hb, hge, hrd⟩, hB⟩ := H5.out
       have c9 := cellS95_9 hb
       have z9 := blk_frozen hb 9
       clear hb hrd hB))
    go_wp2_with fail
    go_returns
    refine ⟨by rw [e1.out.1]; rfl, ?_, (hw1.out.trans H4.out.2 (Ext.refl _ _)).setCell (p := ⟨g, 9, none⟩) (.inl rfl) _⟩
    rw [e1.out.2]
    exact ⟨e4, H5.out.1.set_9 true, H5.out.2.setCell (p := ⟨g, 9, none⟩) hge _⟩
  · have b4 : decide (ft ≤ X + V) = false := decide_eq_false hlt
    have e1 : Aside0 (d.bigV ft = X + V ∧ d.bigD ft = (d.small (bF ft)).bits (bB ft)) := ⟨by unfold D.bigV D.bigD; rw [h0.out, if_neg hlt, if_neg hlt]; exact ⟨rfl, rfl⟩⟩
    go_wp2_with (
      (go_at_call 78
       refine (rbits_calls w0 _ g (d.small (bF ft)) (bB ft : Int) (H3.out.1.chg (S := No) (by repeat (first | exact Chg.refl _ No | apply Chg.drew | apply Chg.drewN)) (fun h => h) (fun _ h => False.elim h)) HH.out.2.2.2.2.1.1 HH.out.2.2.2.2.2 (by omega) (by omega) (by omega)).mono ?_
       rintro r w4 ⟨rfl, h4, k4⟩
       rw [← HV.out]
       have H4 : Aside0 (RefAt w0 w4 g ((d.small (bF ft)).bits (bB ft)) ∧ Chg (w.drewN n0) w4 (One g)) := ⟨h4, H3.out.2.trans k4 (Ext.refl _ _)⟩
       clear h4 k4))
    go_wp2_with fail
    go_returns
    refine ⟨by rw [e1.out.1]; rfl, ?_, hw1.out.trans H4.out.2 (Ext.refl _ _)⟩
    rw [e1.out.2]
    exact H4.out.1
end Go.Proofs.Ytiabenmgbikllaa.M

-- What repeats is read at every rate. Conditions: bounds on the numbers.
namespace Go.Proofs.Ytiabenmgbikllaa.M
set_option linter.unusedVariables false
open Go.RowKit Go.Proofs.YtiabenmgbikllaaW.PrintWords Go.Proofs.YtiabenmgbikllaaW.PrintLast Go.Proofs.YtiabenmgbikllaaW.PrintMore Go.Proofs.Ytiabenmgbikllaa.PAll
attribute [local go_sem] max2_int min2_int max_two min_two max_three min_three max_four min_four

theorem uint_ok (d : D) (h : DOk d) (hr : DRaw d) (ft : Int) (f0 : 2 ≤ ft) (f1 : ft ≤ 4294967295) (hk : d.count ≤ 800000000000000000) : DOk (d.uintD ft) ∧ (d.uintD ft).count ≤ d.count + 48 ∧ (d.uintD ft).b = d.b ∧ 0 ≤ d.uintV ft ∧ d.uintV ft < ft ∧ DRaw (d.uintD ft) := by
  by_cases hs : ft ≤ 256
  · obtain ⟨a1, a2, a3, a4, a5⟩ := small_ok d h ft (by omega) (by omega) (by omega)
    have e1 : d.uintV ft = d.choose ft := if_pos hs
    have e2 : d.uintD ft = d.small ft := if_pos hs
    rw [e1, e2]
    exact ⟨a1, by omega, a3, a4, a5, small_raw d hr ft⟩
  · obtain ⟨v1, v2, v3, v4, v5, v6, v7, v8, v9, v10, v11, v12⟩ := bigV0_ok d h hr ft (by omega) f1 hk
    have e1 : d.uintV ft = d.bigV ft := if_neg hs
    have e2 : d.uintD ft = d.bigD ft := if_neg hs
    have e0 : d.bigV0 ft = d.choose (bF ft) * 2 ^ bB ft + (d.small (bF ft)).bitsV (bB ft) := rfl
    rw [e1, e2]
    unfold D.bigV D.bigD
    split
    · obtain ⟨⟨q1, q2, q3, q4, q5, q6, q7, q8⟩, p1, p2, p3, p4, p5, p6⟩ := v9
      obtain ⟨o1, o2, o3, o4, o5, o6⟩ := v10
      exact ⟨⟨⟨q1, q2, q3, q4, q5, q6, q7, q8⟩, p1, p2, p3, p4, p5, p6⟩, v11, v12, by omega, by omega, ⟨o1, o2, o3, o4, o5, o6⟩⟩
    · exact ⟨v9, v11, v12, by omega, by omega, v10⟩
theorem duint_calls (w0 w : World) (g : Nat) (d : D) (ft : Int) (h : DecAt w0 w g d) (hd : DOk d) (hr : DRaw d) (f0 : 2 ≤ ft) (f1 : ft ≤ 4294967295) (hk : d.count ≤ 800000000000000000) :
    Calls Try.prog 81 #[.pointer (some ⟨g, 0, none⟩), .int .i64 ft] w fun r w' => r = .returned (.int .i64 (d.uintV ft)) ∧ DecAt w0 w' g (d.uintD ft) ∧ Chg w w' (One g) := by
  by_cases hs : ft ≤ 256
  · have e1 : d.uintV ft = d.choose ft := if_pos hs
    have e2 : d.uintD ft = d.small ft := if_pos hs
    rw [e1, e2]
    exact dsmall_calls w0 w g d ft h hd f0 hs (by omega)
  · have e1 : d.uintV ft = d.bigV ft := if_neg hs
    have e2 : d.uintD ft = d.bigD ft := if_neg hs
    rw [e1, e2]
    exact dbig_calls w0 w g d ft h hd hr (by omega) f1 hk
theorem ruint_calls (w0 w : World) (g : Nat) (d : D) (ft : Int) (h : RefAt w0 w g d) (hd : DOk d) (hr : DRaw d) (f0 : 2 ≤ ft) (f1 : ft ≤ 4294967295) (hk : d.count ≤ 800000000000000000) :
    Calls Try.prog 25 #[.pointer (some ⟨g, 0, none⟩), .int .i64 ft] w fun r w' => r = .returned (.int .i64 (d.uintV ft)) ∧ RefAt w0 w' g (d.uintD ft) ∧ Chg w w' (One g) := by
  by_cases hs : ft ≤ 256
  · have e1 : d.uintV ft = d.choose ft := if_pos hs
    have e2 : d.uintD ft = d.small ft := if_pos hs
    rw [e1, e2]
    exact rsmall_calls w0 w g d ft h hd f0 hs (by omega)
  · have e1 : d.uintV ft = d.bigV ft := if_neg hs
    have e2 : d.uintD ft = d.bigD ft := if_neg hs
    rw [e1, e2]
    exact rbig_calls w0 w g d ft h hd hr (by omega) f1 hk
theorem uint_reads (w0 : World) (g : Nat) (d : D) (ft : Int) (hd : DOk d) (hr : DRaw d) (f0 : 2 ≤ ft) (f1 : ft ≤ 4294967295) (hk : d.count ≤ 800000000000000000) : ReadsAs w0 g 81 ft d (d.uintD ft) (d.uintV ft) :=
  fun w h => duint_calls w0 w g d ft h hd hr f0 f1 hk
set_option maxHeartbeats 1000000 in
set_option maxRecDepth 100000 in
theorem rltpG_calls (w0 w : World) (g : Nat) (d : D) (rate least most ft : Int) (hL : gain_Lags.f rate = some (least, most)) (l0 : 1 ≤ least) (l1 : least ≤ 1000) (f0 : 2 ≤ ft) (f1 : ft ≤ 1000) (hft : Aside0 (most = least + ft - 1)) (h : DecAt w0 w g d) (hd : DOk d) (hr : DRaw d) (hk : d.count ≤ 800000000000000000) :
    Calls Try.prog 31 #[.pointer (some ⟨g, 0, none⟩), .int .i64 rate] w fun r w' => r = .returned (.agg #[.int .i64 (least + d.uintV ft), .int .i64 ((d.uintD ft).symV (icdf 6))]) ∧ DecAt w0 w' g ((d.uintD ft).sym (icdf 6)) ∧ Chg w w' (One g) := by
  obtain ⟨t1, t2, t3, t4, t5, _⟩ := uint_ok d hd hr ft f0 (by omega) (by omega)
  obtain ⟨s1, s2, s3, s4, s5⟩ := sym_ok (d.uintD ft) t1 (icdf 6) (icdf_ok 6 (by omega)) (icdf_pos 6) (by omega)
  have s5' : (d.uintD ft).symV (icdf 6) < 8 := s5
  have HH := Aside0.mk (And.intro h (And.intro (uint_reads w0 g d ft hd hr f0 (by omega) hk) (symbol_calls w0 g (d.uintD ft) 6 t1 (by omega) (by omega))))
  have hg := h.lt
  clear h hd s1 t1 s5 hr
  have b1 : (least == 0) = false := by simp; omega
  have m0 : 0 ≤ most := by have := hft.out; omega
  have m2 : most ≤ 2000 := by have := hft.out; omega
  have m1 : most - least + 1 = ft := by have := hft.out; omega
  go_enter Try.func31, Try.ntmps31
  go_wp2_with (go_at_call 30; refine (gain_Lags.calls rate least most _ hL).mono ?_; rintro r w1 ⟨rfl, hd1⟩; obtain ⟨n1, rfl⟩ := hd1.out)
  have hnew : (((w.alloc (.cells #[.int .i64 0, .int .i64 0] 39)).drewN n1).alloc (.cells #[.func (.func 81) #[] #[], .int .i64 ft, .func (.func 80) #[] #[], .int .i64 6] 101)).heap[w.heap.size + 1]? = some (.cells #[.func (.func 81) #[] #[], .int .i64 ft, .func (.func 80) #[] #[], .int .i64 6] 101 (0, 0)) := by
    have hh := heap_alloc_new ((w.alloc (.cells #[.int .i64 0, .int .i64 0] 39)).drewN n1) (.cells #[.func (.func 81) #[] #[], .int .i64 ft, .func (.func 80) #[] #[], .int .i64 6] 101)
    rw [show ((w.alloc (.cells #[.int .i64 0, .int .i64 0] 39)).drewN n1).heap.size = w.heap.size + 1 from by simp] at hh
    exact hh
  have HNEW := Aside0.mk hnew
  clear hnew
  refine (together81_calls w0 _ g _ d _ _ ft 6 _ _ (HH.out.1.chg ((((Chg.refl w No).alloc _).drewN n1).alloc _) (fun h => h) (fun _ h => h.elim)) HH.out.2.1 HH.out.2.2 (by omega) HNEW.out).mono ?_
  rintro r w1 ⟨z, rfl, h1, h2, h3, h4⟩
  obtain ⟨b, cap, rfl⟩ := own_two h1
  have q0 := (own_at h1 0 (by omega) (by omega)).1
  have q1 := (own_at h1 1 (by omega) (by omega)).1
  have e0 : w1.cell? ⟨b, 0, none⟩ = some (.int .i64 (d.uintV ft)) := q0
  have e1 : w1.cell? ⟨b, 1, none⟩ = some (.int .i64 ((d.uintD ft).symV (icdf 6))) := q1
  clear q0 q1
  have HX := Aside0.mk (And.intro h2 (((((Chg.refl w (One g)).alloc _).drewN n1).alloc _).trans h3 (Ext.refl _ _)))
  have hr : w1.heap[w.heap.size]? = some (.cells #[.int .i64 0, .int .i64 0] 39 (0, 0)) :=
    (h3.block w.heap.size (by simp; omega) (fun hh => by have hh' : w.heap.size = g := hh; omega)).trans (blk_alloc (blk_drewN (heap_alloc_new w _) n1) _)
  have r0 : w1.cell? ⟨w.heap.size, 0, none⟩ = some (.int .i64 0) := blk_cell hr 0
  have r1 : w1.cell? ⟨w.heap.size, 1, none⟩ = some (.int .i64 0) := blk_cell hr 1
  have z0 := blk_frozen hr 0
  have z1 := blk_frozen hr 1
  have hbn : b ≠ w.heap.size := fun hh => by
    have := own_ne h1 hr (by decide)
    exact this (by rw [hh]; rfl)
  have HRR := Aside0.mk hr
  clear h2 h3 h4 h1 hr
  have a2 : IntKind.i64.wrap (least + d.uintV ft) = least + d.uintV ft := IntWalk.i64_in _ (by omega)
  go_wp2_with fail
  go_region
  all_goals
    go_wp2_with fail
    have hfin := blk_put (blk_put HRR.out 0 (.int .i64 (least + d.uintV ft)) rfl) 1 (.int .i64 ((d.uintD ft).symV (icdf 6))) rfl
    have f0 := blk_cell hfin 0
    have f1 := blk_cell hfin 1
    refine bodyPost_ret (v := .agg #[.int .i64 (least + d.uintV ft), .int .i64 ((d.uintD ft).symV (icdf 6))]) ?_ rfl ⟨rfl, ?_⟩
    · clear r0 r1 z0 z1 e0 e1
      simp [results, Try.results31, go_sem, f0, f1]
    · have hge := HH.out.1.ge
      have hgn : ¬ One w.heap.size g := fun hh => by have hh' : g = w.heap.size := hh; omega
      have hgo : Ge w0.heap.size (One w.heap.size) := fun b' hb' => by have hh' : b' = w.heap.size := hb'; omega
      have kc : Chg w1 (((w1.setCell ⟨w.heap.size, 0, none⟩ (.int .i64 (least + d.uintV ft))).setCell ⟨w.heap.size, 1, none⟩ (.int .i64 ((d.uintD ft).symV (icdf 6)))).drew) (One w.heap.size) := by
        have k1 : Chg w1 (w1.setCell ⟨w.heap.size, 0, none⟩ (.int .i64 (least + d.uintV ft))) (One w.heap.size) := Chg.setCell (p := ⟨w.heap.size, 0, none⟩) (Chg.refl w1 (One w.heap.size)) (Or.inl (show One w.heap.size w.heap.size from rfl)) _
        exact (Chg.setCell (p := ⟨w.heap.size, 1, none⟩) k1 (Or.inl (show One w.heap.size w.heap.size from rfl)) _).drew
      refine ⟨HX.out.1.chg kc hgn hgo, ?_⟩
      refine Chg.drew ?_
      refine Chg.setCell ?_ (.inr (Nat.le_refl _)) _
      refine Chg.setCell ?_ (.inr (Nat.le_refl _)) _
      exact HX.out.2
end Go.Proofs.Ytiabenmgbikllaa.M

-- The document's own reader, made in a world behind that of its bytes. Conditions: the length of its bytes.
namespace Go.Proofs.Ytiabenmgbikllaa.M
set_option linter.unusedVariables false
open Go.RowKit Go.Proofs.YtiabenmgbikllaaW.PrintWords Go.Proofs.YtiabenmgbikllaaW.PrintLast Go.Proofs.YtiabenmgbikllaaW.PrintMore Go.Proofs.Ytiabenmgbikllaa.PAll
attribute [local go_sem] max2_int min2_int max_two min_two max_three min_three max_four min_four

set_option maxHeartbeats 1000000 in
set_option maxRecDepth 100000 in
theorem rnewB_calls (w0 w : World) (A : Option Addr) (c : Nat) (b : List Int) (hB : Below w0.heap.size w0 w) (h : ReadsInt w0 .u8 A b.length b) (hb : Bytes b) (hn : b.length ≤ 140737488351232) :
    Calls Try.prog 22 #[.slice A b.length c] w fun r w' => r = .returned (.pointer (some ⟨w.heap.size, 0, none⟩)) ∧ RefAt w0 w' w.heap.size (D.new b) ∧ Chg w w' No := by
  have HR := Aside0.mk (And.intro h hB)
  clear h hB
  have HZ := Aside0.mk (zero_base b hb (by omega))
  have HF := Aside0.mk (first_base b hb (by omega))
  have HN := Aside0.mk (new_ok b hb (by omega))
  obtain ⟨x0, x1⟩ := (D.zero b).nextV_range HZ.out
  clear hb
  go_enter Try.func22, Try.ntmps22
  go_wp2_with fail
  have HA : Aside0 (RefE w0 (w.alloc (.cells #[.slice A b.length c, .int .u64 128, .int .u64 0, .int .i64 0, .int .i64 0, .int .i64 0, .int .u64 0, .int .i64 0, .int .i64 9, .bool false, .int .u64 0] 95)) w.heap.size (D.zero b) 0) :=
    ⟨⟨IsS95.new w0 w A c b 128 0 0 0 0 0 0 9 false 0 HR.out.2 (Kd.C_of_reads (d := 0) (readsInt_of.1 HR.out.1)), below_alloc HR.out.2 _⟩⟩
  refine (madrigalref3_Dec_next.calls w.heap.size b 128 0 0 0 0 0 0 9 false 0 _ _ _ _ _ _ _ _ _ _ _ w0 _ HA.out.1 HA.out.2 (next3_f (D.zero b) HZ.out 128 9 0)).mono ?_
  rintro r w2 ⟨rfl, h1, h2, h3⟩
  have h1' : RefE w0 w2 w.heap.size { D.zero b with front := (D.zero b).nextF } 0 := ⟨h1, h2⟩
  obtain ⟨A2, c2, hb2, _, hr2⟩ := h1
  have q3 := cellS95_3 hb2
  have q2 := cellS95_2 hb2
  have z3 := blk_frozen hb2 3
  have z2 := blk_frozen hb2 2
  have H2 := Aside0.mk (And.intro h1' h3)
  clear h1' h2 h3 hb2 hr2
  go_wp2_with fail
  have e1 : IntKind.u64.wrap (127 - (D.zero b).nextV / 2) = 127 - (D.zero b).nextV / 2 := wraps_u64 _ (by omega) (by omega)
  have H3 : Aside0 (RefE w0 ((w2.setCell ⟨w.heap.size, 3, none⟩ (.int .i64 (D.zero b).nextV)).setCell ⟨w.heap.size, 2, none⟩ (.int .u64 (127 - (D.zero b).nextV / 2))) w.heap.size (D.first b) 0) := by
    obtain ⟨⟨k1, k2⟩, k3⟩ := H2.out
    exact ⟨⟨(k1.set_3 _).set_2 _, (k2.setCell HR.out.2.size _).setCell HR.out.2.size _⟩⟩
  first | rw [e1] | skip
  refine (madrigalref3_Dec_on.calls 4 w.heap.size b _ _ _ _ _ _ _ _ _ _ _ _ _ _ _ _ _ _ _ _ w0 _ H3.out.1 H3.out.2 (norm3_l 0 3 4 (D.first b) HF.out ?_ ?_ ?_ ?_ ?_ ?_ ?_)).mono ?_
  · show (9 : Int) + 8 * 3 ≤ _; omega
  · show (1 : Int) ≤ 128; omega
  · show (128 : Int) ≤ _; omega
  · show 0 ≤ 127 - (D.zero b).nextV / 2; omega
  · show 127 - (D.zero b).nextV / 2 < _; omega
  · show (8388608 : Int) < 128 * 256 ^ 3; omega
  · omega
  rintro r w3 ⟨rfl, h1, h2, h3⟩
  have H4 : Aside0 (RefAt w0 w3 w.heap.size (D.new b) ∧ Chg w w3 No) :=
    ⟨⟨_, by rw [HN.out.2.2]; exact h1, h2⟩, by
      have hx : Ext w No (One w.heap.size) := Ext.new (fun k hk => by rw [show k = w.heap.size from hk]; exact Nat.le_refl _)
      have x1 := ((Chg.refl w No).alloc _).trans (Chg.of_keep HA.out.2 H2.out.1.2 H2.out.2) hx
      have x2 := (x1.setCell (p := ⟨w.heap.size, 3, none⟩) (.inr (Nat.le_refl _)) (.int .i64 (D.zero b).nextV)).setCell (p := ⟨w.heap.size, 2, none⟩) (.inr (Nat.le_refl _)) (.int .u64 (127 - (D.zero b).nextV / 2))
      exact x2.trans (Chg.of_keep H3.out.2 h2 h3) hx⟩
  clear h1 h2 h3
  go_wp2_with fail
  go_returns
  exact ⟨rfl, H4.out⟩
end Go.Proofs.Ytiabenmgbikllaa.M

-- What repeats is written. Conditions: bounds on the numbers.
namespace Go.Proofs.Ytiabenmgbikllaa.M
set_option linter.unusedVariables false
open Go.RowKit Go.Proofs.YtiabenmgbikllaaW.PrintWords Go.Proofs.YtiabenmgbikllaaW.PrintLast Go.Proofs.YtiabenmgbikllaaW.PrintMore Go.Proofs.Ytiabenmgbikllaa.PAll
attribute [local go_sem] max2_int min2_int max_two min_two max_three min_three max_four min_four

theorem EncAt.lt_all {w : World} {f : Nat → Prop} {g : Nat} {e : E} (h : EncAt w f g e) : Lt w f := by
  obtain ⟨_, _, h⟩ := h
  exact h.lt
/-- What repeats is written (at the narrow rate). -/
def E.ltp (e : E) (lag taps : Int) : E := (e.uint (lag - 16) 129).symbol taps (icdf 6)
theorem filters_calls (w : World) : Calls Try.prog 120 #[] w fun r w' => r = .returned (.int .i64 8) ∧ w' = w := by
  go_enter Try.func120, Try.ntmps120
  go_wp2
  go_returns
  exact ⟨rfl, rfl⟩
set_option maxHeartbeats 1000000 in
set_option maxRecDepth 100000 in
theorem wltp_calls (w : World) (f : Nat → Prop) (g : Nat) (e : E) (lag taps : Int) (h : EncAt w f g e) (hk : EOk e) (hk1 : EOk (e.uint (lag - 16) 129)) (l0 : 16 ≤ lag) (l1 : lag ≤ 144) (t0 : 0 ≤ taps) (t1 : taps < 8) :
    Calls Try.prog 64 #[.pointer (some ⟨g, 0, none⟩), .int .i64 8000, .agg #[.int .i64 lag, .int .i64 taps]] w fun r w' => r = .returned (.int .i64 0) ∧ ∃ f', EncAt w' f' g (e.ltp lag taps) ∧ Chg w w' f ∧ Ext w f f' := by
  have HH := Aside0.mk (And.intro h (And.intro hk hk1))
  clear h hk hk1
  have b1 : decide (lag < 16) = false := by simpa using l0
  have b2 : decide (144 < lag) = false := by simpa using l1
  have b3 : decide (taps < 0) = false := by simpa using t0
  have b4 : decide (8 ≤ taps) = false := by simpa using t1
  go_enter Try.func64, Try.ntmps64
  go_wp2_with (go_at_call 30; refine (lags_calls _).mono ?_; rintro r w1 ⟨rfl, n1, rfl⟩)
  have q0 : ((w.alloc (.cells #[.int .i64 lag, .int .i64 taps] 39)).drewN n1).cell? ⟨w.heap.size, 0, none⟩ = some (.int .i64 lag) := blk_cell (heap_alloc_new w _) 0
  have q1 : ((w.alloc (.cells #[.int .i64 lag, .int .i64 taps] 39)).drewN n1).cell? ⟨w.heap.size, 1, none⟩ = some (.int .i64 taps) := blk_cell (heap_alloc_new w _) 1
  have hblk : ((w.alloc (.cells #[.int .i64 lag, .int .i64 taps] 39)).drewN n1).heap[w.heap.size]? = some (.cells #[.int .i64 lag, .int .i64 taps] 39 (0, 0)) := heap_alloc_new w _
  have hch : Chg w ((w.alloc (.cells #[.int .i64 lag, .int .i64 taps] 39)).drewN n1) No := ((Chg.refl w No).alloc _).drewN n1
  have hlt := HH.out.1.lt_all
  generalize (w.alloc (.cells #[.int .i64 lag, .int .i64 taps] 39)).drewN n1 = W2 at *
  obtain ⟨bx, hbx⟩ : ∃ b, b = w.heap.size := ⟨_, rfl⟩
  rw [← hbx] at q0 q1 hblk ⊢
  have H2 := Aside0.mk (And.intro hch (And.intro hbx (And.intro hblk hlt)))
  clear hch hbx hblk hlt
  go_quiet ((go_at_call 120; exact Calls.quiet_of_same (filters_calls _)))
  go_wp2_with fail
  have hnf : ¬ f bx := fun hh => by have := H2.out.2.2.2 bx hh; have := H2.out.2.1; omega
  refine (euint_calls _ f g e (lag - 16) 129 (HH.out.1.chg (H2.out.1.drewN _) (fun _ _ h => h)) HH.out.2.1 (by omega) (by omega) (by omega)).mono ?_
  rintro r w3 ⟨rfl, f3, h3, k3, x3⟩
  have hb3 := k3.blk H2.out.2.2.1 hnf
  have p1 : w3.cell? ⟨bx, 1, none⟩ = some (.int .i64 taps) := blk_cell hb3 1
  have H3 : Aside0 (EncAt w3 f3 g (e.uint (lag - 16) 129) ∧ Chg w w3 f ∧ Ext w f f3) := ⟨h3, ((H2.out.1.drewN _).mono (fun _ h => h.elim)).trans k3 (Ext.refl _ _), x3.le (by have := H2.out.1.size; simpa using this)⟩
  have hnf3 : Aside0 (¬ f3 bx) := ⟨fun hh => (x3 bx hh).elim hnf (fun h => by have := blk_lt H2.out.2.2.1; simp at h; omega)⟩
  have HB3 := Aside0.mk hb3
  clear h3 k3 x3 hb3 q0 q1 hnf
  go_wp2_with fail
  go_region_held3 (fun w' => w'.cell? ⟨bx, 1, none⟩ = some (.int .i64 taps)) (first | go_keep | assumption) (first
    | (go_at_call 88
       refine (icdf_calls _ 6 (by omega)).mono ?_
       rintro r w4 ⟨v4, rfl, h4⟩
       have p4 : w4.cell? ⟨bx, 1, none⟩ = some (.int .i64 taps) := pw_cell_below h4.keep.below_no p1
       have H4 := Aside0.mk h4
       clear h4)
    | (go_at_call 91
       refine (esym_at _ w4 f3 g _ 6 taps v4 (H3.out.1.chg ((Chg.refl w3 No).drew) (fun _ _ h => h)) HH.out.2.2 (by omega) H4.out (by omega) (by show _ < (8 : Int); omega)).mono ?_
       rintro r w5 ⟨rfl, f5, h5⟩
       have p5 : w5.cell? ⟨bx, 1, none⟩ = some (.int .i64 taps) := blk_cell (h5.2.1.blk (blk_drew HB3.out) hnf3.out) 1
       have H5 := Aside0.mk h5
       clear h5))
  all_goals
    go_wp2_with fail
    go_returns
    exact ⟨rfl, f5, H5.out.1, (H3.out.2.1.drew).trans H5.out.2.1 H3.out.2.2, H3.out.2.2.trans H3.out.2.1.size H5.out.2.2⟩
end Go.Proofs.Ytiabenmgbikllaa.M

-- What the document tells of a few loudnesses, reckoned. Conditions: none.
namespace Go.Proofs.Ytiabenmgbikllaa.M
set_option linter.unusedVariables false
open Go.RowKit Go.Proofs.YtiabenmgbikllaaW.PrintWords Go.Proofs.YtiabenmgbikllaaW.PrintLast Go.Proofs.YtiabenmgbikllaaW.PrintMore Go.Proofs.Ytiabenmgbikllaa.PAll

/-- Whether a writer is in order, looked over by program. -/
def eokB (e : E) : Bool := decide (8388608 < e.rng) && decide (e.rng ≤ 2147483648) && decide (0 ≤ e.val) && decide (e.val ≤ 2147483647) && decide (e.told.length ≤ 100000000000) && decide (0 ≤ e.count) && decide (e.count ≤ 100000000000000000)
theorem eok_of (e : E) (h : eokB e = true) : EOk e := by
  unfold eokB at h
  simp only [Bool.and_eq_true, decide_eq_true_eq] at h
  obtain ⟨⟨⟨⟨⟨⟨h1, h2⟩, h3⟩, h4⟩, h5⟩, h6⟩, h7⟩ := h
  exact ⟨h1, h2, h3, h4, h5, h6, h7⟩
def bytesB (l : List Int) : Bool := l.all fun x => decide (0 ≤ x) && decide (x < 256)
theorem bytes_of (l : List Int) (h : bytesB l = true) : Bytes l := fun x hx => by
  unfold bytesB at h
  rw [List.all_eq_true] at h
  have := h x hx
  simpa using this
def eokrB (e : E) : Bool := decide (0 ≤ e.rawBits) && decide ((e.raw.length : Int) = (e.rawBits + 7) / 8) && decide (e.count = 33 + 8 * e.told.length + e.rawBits) && bytesB e.told && bytesB e.raw
theorem eokr_of (e : E) (h : eokrB e = true) : EOkR e := by
  unfold eokrB at h
  simp only [Bool.and_eq_true, decide_eq_true_eq] at h
  obtain ⟨⟨⟨⟨h1, h2⟩, h3⟩, h4⟩, h5⟩ := h
  exact ⟨h1, h2, h3, bytes_of _ h4, bytes_of _ h5⟩

def ge1 : E := E.new.first 33
def ge2 : E := ge1.next 60 33
def ge3 : E := ge2.ltp 100 3
def gx : List Int := ge3.done 20
theorem ge_ok : EOk (E.new.symbol (33 / 8) (icdf 1)) ∧ EOk ge1 ∧ EOk ge2 ∧ EOk (ge2.uint (100 - 16) 129) ∧ EOk ge3 ∧ EOkR ge3 :=
  ⟨eok_of _ (by decide +kernel), eok_of _ (by decide +kernel), eok_of _ (by decide +kernel), eok_of _ (by decide +kernel), eok_of _ (by decide +kernel), eokr_of _ (by decide +kernel)⟩
theorem ge_tell : ge3.tell ≤ 8 * ((20 : Nat) : Int) := by decide +kernel
theorem gx_bytes : Bytes gx := bytes_of _ (by decide +kernel)
theorem gx_len : gx.length = 20 := by decide +kernel
def gd0 : D := D.new gx
def gd1 : D := gd0.firstD
def gd2 : D := gd1.nextD
theorem gd_reads : gd0.firstV = 33 ∧ gd1.nextV' 33 = 41 ∧ gd2.ltpLag = 100 ∧ gd2.ltpTaps = 3 := by
  refine ⟨?_, ?_, ?_, ?_⟩ <;> decide +kernel
theorem g_next : gcl (gcl 33 + nextS 60 33 - 8) = 41 := by decide +kernel
theorem g_loud : loud 0 = 1 ∧ nearest 1 = 0 := by
  refine ⟨?_, ?_⟩ <;> decide +kernel
end Go.Proofs.Ytiabenmgbikllaa.M

-- The self-check of the chapter on loudness answers yes. Conditions: none.
namespace Go.Proofs.Ytiabenmgbikllaa.M
set_option linter.unusedVariables false
open Go.RowKit Go.Proofs.YtiabenmgbikllaaW.PrintWords Go.Proofs.YtiabenmgbikllaaW.PrintLast Go.Proofs.YtiabenmgbikllaaW.PrintMore Go.Proofs.Ytiabenmgbikllaa.PAll
attribute [local go_sem] max2_int min2_int max_two min_two max_three min_three max_four min_four

theorem D.firstD_ok (d : D) (h : DOk d) (hk : d.count ≤ 800000000000000000) : DOk d.firstD ∧ d.firstD.count ≤ d.count + 48 ∧ d.firstD.b = d.b := by
  obtain ⟨a1, a2, a3, _⟩ := sym_ok d h (icdf 1) (icdf_ok 1 (by omega)) (icdf_pos 1) (by omega)
  obtain ⟨b1, b2, b3, _⟩ := small_ok _ a1 8 (by omega) (by omega) (by omega)
  exact ⟨b1, by unfold D.firstD; omega, b3.trans a3⟩
theorem D.nextD_ok (d : D) (h : DOk d) (hk : d.count ≤ 800000000000000000) : DOk d.nextD ∧ d.nextD.count ≤ d.count + 48 ∧ d.nextD.b = d.b := by
  obtain ⟨a1, a2, a3, _⟩ := sym_ok d h (icdf 2) (icdf_ok 2 (by omega)) (icdf_pos 2) (by omega)
  exact ⟨a1, by unfold D.nextD; omega, a3⟩
theorem eok_new : EOk E.new := eok_of _ (by decide +kernel)
set_option maxHeartbeats 2000000 in
set_option maxRecDepth 100000 in
theorem awake_calls (w : World) : Calls Try.prog 18 #[] w fun r w' => r = .returned (.bool true) ∧ Chg w w' No := by
  obtain ⟨k1, k2, k3, k4, k5, k6⟩ := ge_ok
  have K := Aside0.mk (And.intro k1 (And.intro k2 (And.intro k3 (And.intro k4 (And.intro k5 k6)))))
  clear k1 k2 k3 k4 k5 k6
  go_enter Try.func18, Try.ntmps18
  go_wp2_with (first
    | (go_at_call 38; refine (enew_calls _).mono ?_; rintro r w1 ⟨rfl, a1, b1⟩; have H1 := Aside0.mk (And.intro a1 b1); clear a1 b1)
    | (go_at_call 62; refine (wfirst_calls w1 _ _ E.new 33 H1.out.1 (eok_new) K.out.1 (by omega) (by omega)).mono ?_; rintro r w2 ⟨rfl, f2, a2, b2, c2⟩; have H2 := Aside0.mk (And.intro a2 (And.intro b2 c2)); clear a2 b2 c2)
    | (go_at_call 63; refine (wnext_calls w2 f2 _ ge1 60 33 H2.out.1 K.out.2.1).mono ?_; rintro r w3 ⟨rfl, f3, a3, b3, c3⟩; have H3 := Aside0.mk (And.intro a3 (And.intro b3 c3)); clear a3 b3 c3; rw [g_next])
    | (go_at_call 64; refine (wltp_calls _ f3 _ ge2 100 3 (H3.out.1.chg (Chg.refl w3 No) (fun _ _ h => h)) K.out.2.2.1 K.out.2.2.2.1 (by omega) (by omega) (by omega) (by omega)).mono ?_; rintro r w4 ⟨rfl, f4, a4, b4, c4⟩; have H4 := Aside0.mk (And.intro a4 (And.intro b4 c4)); clear a4 b4 c4)
    | (go_at_call 44; refine (edone_calls w4 f4 _ ge3 20 H4.out.1 K.out.2.2.2.2.1 K.out.2.2.2.2.2 (by omega) ge_tell).mono ?_; rintro r w5 ⟨v, rfl, a5, b5, c5⟩; have H5 := Aside0.mk (And.intro a5 (And.intro b5 c5)); clear a5 b5 c5)
    | (go_at_call 21; refine (dnew_calls w5 v gx (Rd.own H5.out.1) gx_bytes (by rw [gx_len]; omega)).mono ?_; rintro r w6 ⟨w0, g, rfl, a6, b6, c6⟩; have H6 := Aside0.mk (And.intro a6 (And.intro b6 c6)); clear a6 b6 c6)
    | (go_at_call 30; refine (lags_calls _).mono ?_; rintro r w7 ⟨rfl, n7, rfl⟩)
    )
  have Z : Aside0 (Chg w (w6.drewN n7) No ∧ DecAt w0 (w6.drewN n7) g gd0 ∧ w.heap.size ≤ w0.heap.size) := by
    obtain ⟨p1, p2⟩ : Chg w w1 No ∧ Ext w No (One w.heap.size) := ⟨H1.out.2, Ext.new (fun k hk => by rw [show k = w.heap.size from hk]; omega)⟩
    have p3 : Chg w w2 No ∧ Ext w No f2 := ⟨p1.trans H2.out.2.1 p2, p2.trans p1.size H2.out.2.2⟩
    have p4 : Chg w w3 No ∧ Ext w No f3 := ⟨p3.1.trans H3.out.2.1 p3.2, p3.2.trans p3.1.size H3.out.2.2⟩
    have p5 : Chg w w4 No := p4.1.trans H4.out.2.1 p4.2
    have p6 : Chg w w5 No := p5.trans H5.out.2.1 (Ext.refl _ _)
    have p7 : Chg w (w6.drewN n7) No := (p6.trans H6.out.2.1 (Ext.refl _ _)).drewN n7
    exact ⟨p7, H6.out.1.chg ((Chg.refl w6 No).drewN n7) (fun h => h) (fun _ h => h.elim), by have := p6.size; have := H6.out.2.2; omega⟩
  generalize w6.drewN n7 = W at *
  clear H1 H2 H3 H4 H5 H6 K
  obtain ⟨r0, r1, r2⟩ := new_ok gx gx_bytes (by rw [gx_len]; omega)
  obtain ⟨s0, s1, s2⟩ := D.firstD_ok gd0 r0 (by show (D.new gx).count ≤ _; omega)
  obtain ⟨t0, t1, t2⟩ := D.nextD_ok gd1 s0 (by show gd0.firstD.count ≤ _; have : gd0.count ≤ 33 := r1; omega)
  obtain ⟨v0, v1, v2, v3⟩ := gd_reads
  obtain ⟨l0, l1⟩ := g_loud
  have K := Aside0.mk (And.intro r0 (And.intro s0 t0))
  have q0 : gd0.count ≤ 800000000000000000 := by show (D.new gx).count ≤ _; omega
  have q1 : gd1.count ≤ 800000000000000000 := by show gd0.firstD.count ≤ _; have : gd0.count ≤ 33 := r1; omega
  have q2 : gd2.count ≤ 800000000000000000 := by show gd1.nextD.count ≤ _; have : gd0.count ≤ 33 := r1; have : gd1.count ≤ gd0.count + 48 := s1; omega
  clear r0 r1 r2 s0 s1 s2 t0 t1 t2
  go_wp2_with (first
    | (go_at_call 26; refine (rfirst_calls w0 _ g gd0 Z.out.2.1 K.out.1 q0).mono ?_; rintro r w7 ⟨rfl, a7, b7⟩; have H7 := Aside0.mk (And.intro a7 b7); clear a7 b7; rw [v0])
    | (go_at_call 28; refine (rnext_calls w0 w7 g gd1 33 H7.out.1 K.out.2.1 q1).mono ?_; rintro r w8 ⟨rfl, a8, b8⟩; have H8 := Aside0.mk (And.intro a8 b8); clear a8 b8; rw [v1])
    | (go_at_call 31; refine (rltp_calls w0 w8 g gd2 H8.out.1 K.out.2.2 q2).mono ?_; rintro r w9 ⟨rfl, a9, b9⟩; have H9 := Aside0.mk (And.intro a9 b9); clear a9 b9; rw [v2, v3])
    | (go_at_call 20; refine (loud_calls _ 0).mono ?_; rintro r w10 ⟨rfl, b10⟩; rw [l0])
    | (go_at_call 19; refine (nearest_calls _ 1).mono ?_; rintro r w11 ⟨rfl, b11⟩; rw [l1]))
  go_returns
  have hs : Ext w No (One g) := Ext.new (fun k hk => by rw [show k = g from hk]; have := Z.out.2.1.ge; have := Z.out.2.2; omega)
  refine ⟨rfl, ?_⟩
  have p7 := Z.out.1.trans H7.out.2 hs
  have p8 := p7.trans H8.out.2 hs
  have p9 := p8.trans H9.out.2 hs
  exact (p9.trans b10 (Ext.refl _ _)).trans b11 (Ext.refl _ _)
end Go.Proofs.Ytiabenmgbikllaa.M

-- The nearest loudness is the nearest, and the law that asks it answers true. Conditions: none.
namespace Go.Proofs.Ytiabenmgbikllaa.M
set_option linter.unusedVariables false
open Go.RowKit Go.Proofs.YtiabenmgbikllaaW.PrintWords Go.Proofs.YtiabenmgbikllaaW.PrintLast Go.Proofs.YtiabenmgbikllaaW.PrintMore Go.Proofs.Ytiabenmgbikllaa.PAll
attribute [local go_sem] max2_int min2_int max_two min_two max_three min_three max_four min_four

theorem near_best (v : Int) (h0 : 0 ≤ v) (h1 : v ≤ 1099511627776) (k : Nat) (hk : k ≤ 63) : dist (loud (nearest v)) v ≤ dist (loud k) v ∧ (dist (loud k) v = dist (loud (nearest v)) v → nearest v ≤ k) := by
  have hb := nearN_best (clampI v 0 306720) 63 k hk
  have l1 := loud_range (nearest v)
  have l2 := loud_range (k : Int)
  by_cases hv : v ≤ 306720
  · have he : clampI v 0 306720 = v := by unfold clampI; split <;> (try split) <;> omega
    rw [he] at hb
    unfold nearest
    rw [he]
    exact hb
  · have he : clampI v 0 306720 = 306720 := by unfold clampI; split <;> (try split) <;> omega
    have hn : nearest v = nearN 306720 63 := by unfold nearest; rw [he]
    rw [he, ← hn] at hb
    have d1 := dist_abs (loud (nearest v)) v
    have d2 := dist_abs (loud k) v
    have d3 := dist_abs (loud (nearest v)) 306720
    have d4 := dist_abs (loud k) 306720
    exact ⟨by omega, fun h => hb.2 (by omega)⟩
theorem near_le (v : Int) : nearest v ≤ 63 := nearN_le _ 63

set_option maxHeartbeats 2000000 in
set_option maxRecDepth 100000 in
theorem gainNear_calls (a0 : Int) (w : World) :
    Calls Try.prog 3 #[.int .i64 a0] w fun e w' => e = .returned (.bool true) ∧ Below w.heap.size w w' := by
  by_cases h0 : a0 < 0
  · go_enter Try.func3, Try.ntmps3
    have b1 : decide (a0 < 0) = true := by simpa using h0
    go_wp2_with (go_at_call 18; refine (awake_calls w).mono ?_; rintro r w1 ⟨rfl, c1⟩)
    go_returns
    exact ⟨rfl, c1.below_no⟩
  by_cases h1 : 1099511627776 < a0
  · go_enter Try.func3, Try.ntmps3
    have b1 : decide (a0 < 0) = false := by simpa using h0
    have b2 : decide (1099511627776 < a0) = true := by simpa using h1
    go_wp2_with (go_at_call 18; refine (awake_calls w).mono ?_; rintro r w1 ⟨rfl, c1⟩)
    go_returns
    exact ⟨rfl, c1.below_no⟩
  have b1 : decide (a0 < 0) = false := by simpa using h0
  have b2 : decide (1099511627776 < a0) = false := by simpa using h1
  have B := near_best a0 (by omega) (by omega)
  have hg := near_le a0
  obtain ⟨g, hgg⟩ : ∃ g, g = nearest a0 := ⟨_, rfl⟩
  rw [← hgg] at B hg
  have BB := Aside0.mk (And.intro B hgg)
  clear B hgg
  have b3 : decide ((g : Int) < 0) = false := by simp
  have b4 : decide (63 < (g : Int)) = false := decide_eq_false (by omega)
  go_enter Try.func3, Try.ntmps3
  go_wp2_with (first
    | (go_at_call 18; refine (awake_calls w).mono ?_; rintro r w1 ⟨rfl, c1⟩)
    | (go_at_call 19; refine (nearest_calls _ a0).mono ?_; rintro r w2 ⟨rfl, c2⟩; rw [← BB.out.2]))
  have H2 := Aside0.mk (Chg.trans c1 c2 (Ext.refl _ _))
  clear c1 c2
  go_loopg [4] 64 (fun n u4 wr => ∃ k : Nat, u4 = .int .i64 (k : Int) ∧ n + k = 64 ∧ Aside0 (Chg w wr No))
  case atStart => exact ⟨0, rfl, rfl, H2⟩
  case round =>
    clear H2
    obtain ⟨k, rfl, hk, HC⟩ := hrel
    by_cases hk64 : k < 64
    · have HN := Aside0.mk (BB.out.1 k (by omega))
      have l1 := loud_range (g : Int)
      have l2 := loud_range (k : Int)
      obtain ⟨x, hx⟩ : ∃ x : Int, x = loud (g : Int) := ⟨_, rfl⟩
      obtain ⟨y, hy⟩ : ∃ y : Int, y = loud (k : Int) := ⟨_, rfl⟩
      have HX := Aside0.mk (And.intro hx hy)
      rw [← hx] at l1
      rw [← hy] at l2
      clear hx hy
      go_wp2_with fail
      refine (loud_calls _ _).mono ?_
      rintro r w3 ⟨rfl, h3⟩
      rw [← HX.out.1]
      go_wp2_with fail
      refine (loud_calls _ _).mono ?_
      rintro r w4 ⟨rfl, h4⟩
      rw [← HX.out.2]
      have HC4 : Aside0 (Chg w w4 No) := ⟨(HC.out.trans h3 (Ext.refl _ _)).trans h4 (Ext.refl _ _)⟩
      clear h3 h4 HC
      obtain ⟨l1a, l1b⟩ := l1
      obtain ⟨l2a, l2b⟩ := l2
      have HD : Aside0 ((a0 < x ∧ a0 < y → ¬ y - a0 < x - a0 ∧ (y - a0 = x - a0 → g ≤ k)) ∧ (a0 < x ∧ ¬ a0 < y → ¬ a0 - y < x - a0 ∧ (a0 - y = x - a0 → g ≤ k)) ∧ (¬ a0 < x ∧ a0 < y → ¬ y - a0 < a0 - x ∧ (y - a0 = a0 - x → g ≤ k)) ∧ (¬ a0 < x ∧ ¬ a0 < y → ¬ a0 - y < a0 - x ∧ (a0 - y = a0 - x → g ≤ k))) := by
        have hn := HN.out
        rw [← HX.out.1, ← HX.out.2] at hn
        unfold dist at hn
        refine ⟨⟨fun hh => ?_, fun hh => ?_, fun hh => ?_, fun hh => ?_⟩⟩
        all_goals
          split at hn <;> split at hn <;> exact ⟨by omega, fun he => hn.2 (by omega)⟩
      go_wp2
      all_goals first
        | (exfalso; have hd := HD.out; omega)
        | (go_roundg (gk - 1)
           case measure => omega
           case rel => exact ⟨k + 1, by go_num, by omega, HC4⟩)
    · have : k = 64 := by omega
      subst this
      go_wp2_with fail
      go_returns
      exact ⟨rfl, HC.out.below_no⟩
end Go.Proofs.Ytiabenmgbikllaa.M

-- The law of what is read of loudness answers true. Conditions: bounds on the numbers.
namespace Go.Proofs.Ytiabenmgbikllaa.M
set_option linter.unusedVariables false
open Go.RowKit Go.Proofs.YtiabenmgbikllaaW.PrintWords Go.Proofs.YtiabenmgbikllaaW.PrintLast Go.Proofs.YtiabenmgbikllaaW.PrintMore Go.Proofs.Ytiabenmgbikllaa.PAll
attribute [local go_sem] max2_int min2_int max_two min_two max_three min_three max_four min_four

/-- Both readers stand in their blocks, the document's at e, the program's at d. -/
structure Two (w w1 w0 W : World) (gd gr : Nat) (d e : D) : Prop where
  dec : DecAt w0 W gd d
  ref : RefAt w1 W gr e
  chg : Chg w W No
  ne : gd ≠ gr
  s1 : w.heap.size ≤ w1.heap.size
  s0 : w1.heap.size ≤ w0.heap.size
theorem Two.gd {w w1 w0 W : World} {gd gr : Nat} {d e : D} (h : Two w w1 w0 W gd gr d e) : w0.heap.size ≤ gd := h.dec.ge
theorem Two.toRef {w w1 w0 W W' : World} {gd gr : Nat} {d e e' : D} (h : Two w w1 w0 W gd gr d e) (hg : w0.heap.size ≤ gr) (k : RefAt w1 W' gr e') (c : Chg W W' (One gr)) : Two w w1 w0 W' gd gr d e' :=
  ⟨h.dec.chg c (fun hh => h.ne hh) (fun k hk => by rw [show k = gr from hk]; exact hg), k, h.chg.trans c (Ext.new (fun k hk => by have := h.s1; have := h.s0; rw [show k = gr from hk]; omega)), h.ne, h.s1, h.s0⟩
theorem Two.toDec {w w1 w0 W W' : World} {gd gr : Nat} {d e d' : D} (h : Two w w1 w0 W gd gr d e) (k : DecAt w0 W' gd d') (c : Chg W W' (One gd)) : Two w w1 w0 W' gd gr d' e :=
  ⟨k, h.ref.chg c (fun hh => h.ne (Eq.symm hh)) (fun k hk => by rw [show k = gd from hk]; have := h.s0; have := h.gd; omega), h.chg.trans c (Ext.new (fun k hk => by have := h.s1; have := h.s0; have := h.gd; rw [show k = gd from hk]; omega)), h.ne, h.s1, h.s0⟩
theorem Two.no {w w1 w0 W W' : World} {gd gr : Nat} {d e : D} (h : Two w w1 w0 W gd gr d e) (c : Chg W W' No) : Two w w1 w0 W' gd gr d e :=
  ⟨h.dec.chg c (fun h => h) (fun _ h => False.elim h), h.ref.chg c (fun h => h) (fun _ h => False.elim h), h.chg.trans c (Ext.refl _ _), h.ne, h.s1, h.s0⟩

theorem Two.toBlk {w w1 w0 W W' : World} {gd gr L : Nat} {d e : D} (h : Two w w1 w0 W gd gr d e) (c : Chg W W' (One L)) (hd : gd ≠ L) (hr : gr ≠ L) (hL : w0.heap.size ≤ L) : Two w w1 w0 W' gd gr d e :=
  ⟨h.dec.chg c (fun hh => hd hh) (fun k hk => by rw [show k = L from hk]; exact hL), h.ref.chg c (fun hh => hr hh) (fun k hk => by have := h.s0; rw [show k = L from hk]; omega), h.chg.trans c (Ext.new (fun k hk => by have := h.s1; have := h.s0; rw [show k = L from hk]; omega)), h.ne, h.s1, h.s0⟩
set_option maxHeartbeats 800000 in
set_option maxRecDepth 100000 in
theorem gainReads_some (w : World) (s : Value) (b : List Int) (was rate g v least most ft : Int) (hL : gain_Lags.f rate = some (least, most)) (l0 : 1 ≤ least) (l1 : least ≤ 1000) (f0 : 2 ≤ ft) (f1 : ft ≤ 1000) (hft : Aside0 (most = least + ft - 1)) (h : Rd w .u8 s b) (hb : Bytes b) (hv0 : -9223372036854775808 ≤ v) (hv1 : v ≤ 9223372036854775807) :
    Calls Try.prog 4 #[s, .int .i64 was, .int .i64 rate, .int .i64 g, .int .i64 v] w fun e w' => e = .returned (.bool true) ∧ Below w.heap.size w w' := by
  obtain ⟨A, c, hs, hc, hrd⟩ := h.to
  subst hs
  by_cases hl : 200 < b.length
  · go_enter Try.func4, Try.ntmps4
    have b1 : decide (200 < (b.length : Int)) = true := decide_eq_true (by omega)
    go_wp2_with (go_at_call 18; refine (awake_calls w).mono ?_; rintro r w1 ⟨rfl, c1⟩)
    go_returns
    exact ⟨rfl, c1.below_no⟩
  have b1 : decide (200 < (b.length : Int)) = false := decide_eq_false (by omega)
  obtain ⟨N1, N2, N3⟩ := new_ok b hb (by omega)
  have HL := Aside0.mk (And.intro hL (show madrigalref6_Lags.f rate = some (least, most) from hL))
  clear hL
  have m0 : 0 < most := by have := hft.out; omega
  have m2 : most ≤ 2000 := by have := hft.out; omega
  have m1 : Aside0 (most - least + 1 = ft) := ⟨by have := hft.out; omega⟩
  have HH := Aside0.mk (And.intro h (And.intro hb (And.intro N1 (And.intro (new_raw b) hrd))))
  clear h N1 N3 hrd
  go_enter Try.func4, Try.ntmps4
  go_wp2_with (first
    | (go_at_call 18; refine (awake_calls w).mono ?_; rintro r w1 ⟨rfl, c1⟩; have C1 := Aside0.mk c1; clear c1)
    | (go_at_call 21; refine (dnew_calls w1 _ b (HH.out.1.chg C1.out (fun _ _ hh => hh)) HH.out.2.1 (by omega)).mono ?_; rintro r w2 ⟨w0, gd, rfl, d1, d2, d3⟩; have D1 := Aside0.mk (And.intro d1 (And.intro d2 d3)); clear d1 d2 d3)
    | (go_at_call 22; refine (rnewB_calls w1 w2 A c b D1.out.2.1.below_no (HH.out.2.2.2.2.below C1.out.below_no) HH.out.2.1 (by omega)).mono ?_; rintro r w3 ⟨rfl, r1, r2⟩; have T0 : Aside0 (Two w w1 w0 w3 gd w2.heap.size (D.new b) (D.new b) ∧ w0.heap.size ≤ w2.heap.size) := ⟨⟨D1.out.1.chg r2 (fun h => h) (fun _ h => False.elim h), r1, (C1.out.trans D1.out.2.1 (Ext.refl _ _)).trans r2 (Ext.refl _ _), Nat.ne_of_lt D1.out.1.lt, C1.out.size, D1.out.2.2⟩, D1.out.1.2.size⟩; clear r1 r2))
  have hN1 := HH.out.2.2.1
  obtain ⟨S1, S2, S3, S4, S5⟩ := sym_ok (D.new b) hN1 (icdf 1) (icdf_ok 1 (by omega)) (icdf_pos 1) (by omega)
  obtain ⟨U1, U2, U3, U4, U5, U6⟩ := uint_ok ((D.new b).sym (icdf 1)) S1 (sym_raw _ HH.out.2.2.2.1 _) 8 (by omega) (by omega) (by omega)
  have SS := Aside0.mk (And.intro hN1 (And.intro S1 (And.intro U1 U6)))
  have S5' : (D.new b).symV (icdf 1) < 8 := S5
  clear hN1 S1 U1 U6 S3 U3 S5
  go_wp2_with (first
    | (go_at_call 24; refine (icdf3_calls w3 1 (by omega)).mono ?_; rintro r w4 ⟨v4, rfl, A4, c4, rfl, r4, l4, p4, q4⟩; have T4 := Aside0.mk (And.intro (T0.out.1.no q4) (And.intro r4 (And.intro l4 p4))); clear r4 l4 p4 q4)
    | (go_at_call 23; refine (rsym_calls w1 w4 w2.heap.size (D.new b) (icdf 1) A4 c4 T4.out.1.ref SS.out.1 (icdf_ok 1 (by omega)) (icdf3_good 1 (by omega)) (icdf_pos 1) T4.out.2.1 T4.out.2.2.1 (fun ad ha hh => by have h1 := T4.out.2.2.2 ad ha; have h2 := T0.out.1.ref.lt; omega) (by omega)).mono ?_; rintro r w5 ⟨rfl, r5, k5⟩; have T5 := Aside0.mk (T4.out.1.toRef T0.out.2 r5 k5); clear r5 k5)
    | (go_at_call 25; refine (ruint_calls w1 w5 w2.heap.size ((D.new b).sym (icdf 1)) 8 T5.out.ref SS.out.2.1 (sym_raw _ HH.out.2.2.2.1 _) (by omega) (by omega) (by omega)).mono ?_; rintro r w6 ⟨rfl, r6, k6⟩; have T6 := Aside0.mk (T5.out.toRef T0.out.2 r6 k6); clear r6 k6))
  have F0 : Aside0 ((D.new b).firstV = 8 * (D.new b).symV (icdf 1) + ((D.new b).sym (icdf 1)).uintV 8 ∧ (D.new b).firstD = ((D.new b).sym (icdf 1)).uintD 8) := ⟨rfl, rfl⟩
  obtain ⟨d1, hd1⟩ : ∃ d1, d1 = ((D.new b).sym (icdf 1)).uintD 8 := ⟨_, rfl⟩
  have c1 : d1.count ≤ 200 := by rw [hd1]; omega
  have HD1 : Aside0 (DOk d1 ∧ DRaw d1) := ⟨by rw [hd1]; exact ⟨SS.out.2.2.1, SS.out.2.2.2⟩⟩
  have T6' : Aside0 (Two w w1 w0 w6 gd w2.heap.size (D.new b) d1) := ⟨by rw [hd1]; exact T6.out⟩
  have F1 : Aside0 ((D.new b).firstD = d1) := ⟨by rw [hd1]; exact F0.out.2⟩
  obtain ⟨X, hX⟩ : ∃ X, X = 8 * (D.new b).symV (icdf 1) + ((D.new b).sym (icdf 1)).uintV 8 := ⟨_, rfl⟩
  have F2 : Aside0 ((D.new b).firstV = X) := ⟨by rw [hX]; exact F0.out.1⟩
  go_wp2_with (first
    | (go_at_call 26; refine (rfirst_calls w0 w6 gd (D.new b) T6'.out.dec SS.out.1 (by omega)).mono ?_; rintro r w7 ⟨rfl, r7, k7⟩; rw [F1.out] at r7; rw [F0.out.1]; have T7 := Aside0.mk (T6'.out.toDec r7 k7); clear r7 k7))
  clear hd1 hX
  obtain ⟨y0, y1⟩ := gcl_range was
  obtain ⟨Y, hY⟩ : ∃ Y, Y = gcl was := ⟨_, rfl⟩
  have HY := Aside0.mk hY
  rw [← hY] at y0 y1
  clear hY
  obtain ⟨P1, P2, P3, P4, P5⟩ := sym_ok d1 HD1.out.1 (icdf 2) (icdf_ok 2 (by omega)) (icdf_pos 2) (by omega)
  have P5' : d1.symV (icdf 2) < 17 := P5
  have PP := Aside0.mk (And.intro P1 (sym_raw d1 HD1.out.2 (icdf 2)))
  clear P1 P3 P5
  go_wp2_with (first
    | (go_at_call 27; refine (madrigalref1_Clamp.calls 1 was 0 63 _ _ (clamp3_f 0 was 0 63)).mono ?_; rintro r w8 ⟨rfl, n8⟩; rw [show clampI was 0 63 = Y from HY.out.symm]; have T8 : Aside0 (Two w w1 w0 w8 gd w2.heap.size d1 d1) := ⟨by obtain ⟨n, rfl⟩ := n8.out; exact T7.out.no ((Chg.refl w7 No).drewN n)⟩; clear n8))
  go_wp2_with (go_at_call 24; refine (icdf3_calls w8 2 (by omega)).mono ?_; rintro r w9 ⟨v9, rfl, A9, c9, rfl, r9, l9, p9, q9⟩; have T9 := Aside0.mk (And.intro (T8.out.no q9) (And.intro r9 (And.intro l9 p9))); clear r9 l9 p9 q9)
  have hne9 : ∀ ad, A9 = some ad → ad.block ≠ w2.heap.size := fun ad ha hh => by have h1 := T9.out.2.2.2 ad ha; have h2 := T8.out.ref.lt; omega
  refine (rsym_calls w1 w9 w2.heap.size d1 (icdf 2) A9 c9 T9.out.1.ref HD1.out.1 (icdf_ok 2 (by omega)) (icdf3_good 2 (by omega)) (icdf_pos 2) T9.out.2.1 T9.out.2.2.1 hne9 (by omega)).mono ?_
  rintro r wa ⟨rfl, ra, ka⟩
  have Ta := Aside0.mk (T9.out.1.toRef T0.out.2 ra ka)
  clear ra ka
  obtain ⟨Z, hZ⟩ : ∃ Z, Z = d1.symV (icdf 2) := ⟨_, rfl⟩
  have HZ := Aside0.mk hZ
  rw [← hZ] at P4 P5' ⊢
  clear hZ
  have C3 : Aside0 (clampI (Y + Z - 8) 0 63 = d1.nextV' was ∧ d1.nextD = d1.sym (icdf 2)) := ⟨by rw [HY.out, HZ.out]; rfl, rfl⟩
  obtain ⟨d2, hd2⟩ : ∃ d2, d2 = d1.sym (icdf 2) := ⟨_, rfl⟩
  have c2 : d2.count ≤ 300 := by rw [hd2]; omega
  have Ta' : Aside0 (Two w w1 w0 wa gd w2.heap.size d1 d2) := ⟨by rw [hd2]; exact Ta.out⟩
  have HD2 : Aside0 (DOk d2 ∧ DRaw d2) := ⟨by rw [hd2]; exact PP.out⟩
  have E2 : Aside0 (d1.nextD = d2) := ⟨by rw [hd2]; rfl⟩
  clear hd2 P2
  go_wp2_with (first
    | (go_at_call 27; refine (madrigalref1_Clamp.calls 1 (Y + Z - 8) 0 63 _ _ (clamp3_f 0 (Y + Z - 8) 0 63)).mono ?_; rintro r wb ⟨rfl, nb⟩; rw [C3.out.1]; have Tb : Aside0 (Two w w1 w0 wb gd w2.heap.size d1 d2) := ⟨by obtain ⟨n, rfl⟩ := nb.out; exact Ta'.out.no ((Chg.refl wa No).drewN n)⟩; clear nb)
    | (go_at_call 28; refine (rnext_calls w0 wb gd d1 was Tb.out.dec HD1.out.1 (by omega)).mono ?_; rintro r wc ⟨rfl, rc, kc⟩; rw [E2.out] at rc; have Tc := Aside0.mk (Tb.out.toDec rc kc); clear rc kc))
  have HLb : Aside0 ((wc.alloc (.cells #[.int .i64 0, .int .i64 0] 39)).heap[wc.heap.size]? = some (.cells #[.int .i64 0, .int .i64 0] 39 (0, 0))) := ⟨heap_alloc_new wc _⟩
  have Td : Aside0 (Two w w1 w0 (wc.alloc (.cells #[.int .i64 0, .int .i64 0] 39)) gd w2.heap.size d2 d2) := ⟨Tc.out.no ((Chg.refl wc No).alloc _)⟩
  have hLd : gd ≠ wc.heap.size ∧ w2.heap.size ≠ wc.heap.size := ⟨Nat.ne_of_lt Tc.out.dec.lt, Nat.ne_of_lt Tc.out.ref.lt⟩
  obtain ⟨V1, V2, V3, V4, V5, V6⟩ := uint_ok d2 HD2.out.1 HD2.out.2 ft f0 (by omega) (by omega)
  go_wp2_with (first
    | (go_at_call 29; refine (madrigalref6_Lags.calls rate least most _ HL.out.2).mono ?_; rintro r we ⟨rfl, ne⟩; obtain ⟨n, rfl⟩ := ne.out; have Te : Aside0 (Two w w1 w0 ((wc.alloc (.cells #[.int .i64 0, .int .i64 0] 39)).drewN n) gd w2.heap.size d2 d2) := ⟨Td.out.no ((Chg.refl _ No).drewN n)⟩; clear ne))
  have HLe : Aside0 (((wc.alloc (.cells #[.int .i64 0, .int .i64 0] 39)).drewN n).heap[wc.heap.size]? = some (.cells #[.int .i64 0, .int .i64 0] 39 (0, 0))) := ⟨blk_drewN HLb.out n⟩
  have hL0 : w0.heap.size ≤ wc.heap.size := by have := Tc.out.dec.ge; have := Tc.out.dec.lt; omega
  clear HLb Td
  generalize ((wc.alloc (.cells #[.int .i64 0, .int .i64 0] 39)).drewN n) = wd at Te HLe ⊢
  obtain ⟨hLd1, hLd2⟩ := hLd
  generalize wc.heap.size = L at HLe hL0 hLd1 hLd2 ⊢
  rw [m1.out]
  refine (ruint_calls w1 wd w2.heap.size d2 ft Te.out.ref HD2.out.1 HD2.out.2 f0 (by omega) (by omega)).mono ?_
  rintro r wf ⟨rfl, rf, kf⟩
  have Tf := Aside0.mk (Te.out.toRef T0.out.2 rf kf)
  have HLf := Aside0.mk (kf.blk HLe.out (fun hh => hLd2 (Eq.symm hh)))
  clear rf kf
  have z0 := blk_frozen HLf.out 0
  obtain ⟨q, hq⟩ : ∃ q, q = d2.uintV ft := ⟨_, rfl⟩
  obtain ⟨d3, hd3⟩ : ∃ d3, d3 = d2.uintD ft := ⟨_, rfl⟩
  have HD3 : Aside0 (DOk d3 ∧ DRaw d3 ∧ d2.uintV ft = q ∧ d2.uintD ft = d3) := ⟨by rw [hd3, hq]; exact ⟨V1, V6, rfl, rfl⟩⟩
  have c3 : d3.count ≤ 400 := by rw [hd3]; omega
  have Tf' : Aside0 (Two w w1 w0 wf gd w2.heap.size d2 d3) := ⟨by rw [hd3]; exact Tf.out⟩
  rw [← hq] at V4 V5 ⊢
  clear hd3 V1 V6 V2 V3 hq
  have y0 : wf.cell? ⟨L, 0, none⟩ = some (.int .i64 0) := blk_cell HLf.out 0
  go_wp2_with fail
  have HLg := Aside0.mk (blk_put HLf.out 0 (.int .i64 (least + q)) rfl)
  have Tg : Aside0 (Two w w1 w0 (wf.setCell ⟨L, 0, none⟩ (.int .i64 (least + q))) gd w2.heap.size d2 d3) := ⟨Tf'.out.toBlk ((Chg.refl wf (One L)).setCell (p := ⟨L, 0, none⟩) (.inl rfl) _) hLd1 hLd2 hL0⟩
  refine (icdf3_calls _ 6 (by omega)).mono ?_
  rintro r wh ⟨vh, rfl, Ah, ch, rfl, rh, lh, ph, qh⟩
  have Th := Aside0.mk (And.intro (Tg.out.no qh) (And.intro rh (And.intro lh ph)))
  have HLh := Aside0.mk (qh.blk HLg.out (fun h => h))
  have hneh : ∀ ad, Ah = some ad → ad.block ≠ w2.heap.size := fun ad ha hh => by have h1 := ph ad ha; have h2 := Tg.out.ref.lt; omega
  have HNE := Aside0.mk hneh
  clear rh lh ph qh z0 y0 hneh
  obtain ⟨s1, s2, s3, s4, s5⟩ := sym_ok d3 HD3.out.1 (icdf 6) (icdf_ok 6 (by omega)) (icdf_pos 6) (by omega)
  have s5' : d3.symV (icdf 6) < 8 := s5
  have HD4 : Aside0 (DOk (d3.sym (icdf 6))) := ⟨s1⟩
  clear s1 s3 s5
  go_wp2_with fail
  refine (rsym_calls w1 wh w2.heap.size d3 (icdf 6) Ah ch Th.out.1.ref HD3.out.1 (icdf_ok 6 (by omega)) (icdf3_good 6 (by omega)) (icdf_pos 6) Th.out.2.1 Th.out.2.2.1 HNE.out (by omega)).mono ?_
  rintro r wi ⟨rfl, ri, ki⟩
  have Ti := Aside0.mk (Th.out.1.toRef T0.out.2 ri ki)
  have HLi := Aside0.mk (ki.blk HLh.out (fun hh => hLd2 (Eq.symm hh)))
  clear ri ki
  have z1 := blk_frozen HLi.out 1
  have y1 : wi.cell? ⟨L, 1, none⟩ = some (.int .i64 0) := blk_cell HLi.out 1
  go_wp2_with fail
  have HLj := Aside0.mk (blk_put HLi.out 1 (.int .i64 (d3.symV (icdf 6))) rfl)
  have Tj : Aside0 (Two w w1 w0 (wi.setCell ⟨L, 1, none⟩ (.int .i64 (d3.symV (icdf 6)))) gd w2.heap.size d2 (d3.sym (icdf 6))) := ⟨Ti.out.toBlk ((Chg.refl wi (One L)).setCell (p := ⟨L, 1, none⟩) (.inl rfl) _) hLd1 hLd2 hL0⟩
  clear z1 y1
  refine (gain_Lags.calls rate least most _ HL.out.1).mono ?_
  rintro r wk ⟨rfl, nk⟩
  obtain ⟨n, rfl⟩ := nk.out
  have HLk := Aside0.mk (blk_drewN HLj.out n)
  have Tk := Aside0.mk (Tj.out.no ((Chg.refl _ No).drewN n))
  clear nk
  generalize (wi.setCell ⟨L, 1, none⟩ (.int .i64 (d3.symV (icdf 6)))).drewN n = W at HLk Tk ⊢
  obtain ⟨y, hy⟩ : ∃ y, y = d3.symV (icdf 6) := ⟨_, rfl⟩
  have HY6 := Aside0.mk hy
  rw [← hy] at s4 s5' HLk ⊢
  clear hy
  have y0 : W.cell? ⟨L, 0, none⟩ = some (.int .i64 (least + q)) := blk_cell HLk.out 0
  have y1 : W.cell? ⟨L, 1, none⟩ = some (.int .i64 y) := blk_cell HLk.out 1
  have HX4 : Aside0 ((d2.uintD ft).sym (icdf 6) = d3.sym (icdf 6) ∧ least + d2.uintV ft = least + q ∧ (d2.uintD ft).symV (icdf 6) = y) := ⟨by rw [HD3.out.2.2.2, HD3.out.2.2.1, HY6.out]; exact ⟨rfl, rfl, rfl⟩⟩
  go_wp2_with fail
  go_region_held3 (fun w' => w'.cell? ⟨L, 0, none⟩ = some (.int .i64 (least + q)) ∧ w'.cell? ⟨L, 1, none⟩ = some (.int .i64 y)) (first | go_keep | exact ⟨by assumption, by assumption⟩) (first
    | (go_at_call 31
       refine (rltpG_calls w0 _ gd d2 rate least most ft HL.out.1 l0 l1 f0 f1 hft (Tk.out.no (by repeat (first | exact Chg.refl _ _ | apply Chg.drew | apply Chg.drewN))).dec HD2.out.1 HD2.out.2 (by omega)).mono ?_
       rintro r wl ⟨rfl, rl, kl⟩
       rw [HX4.out.1] at rl
       rw [HX4.out.2.1, HX4.out.2.2]
       have kl' : Chg W wl (One gd) := Chg.trans (by repeat (first | exact Chg.refl _ _ | apply Chg.drew | apply Chg.drewN)) kl (Ext.refl _ _)
       have Tl := Aside0.mk (Tk.out.toDec rl kl')
       have HLl := Aside0.mk (kl'.blk HLk.out (fun hh => hLd1 (Eq.symm hh)))
       have yl0 : wl.cell? ⟨L, 0, none⟩ = some (.int .i64 (least + q)) := blk_cell HLl.out 0
       have yl1 : wl.cell? ⟨L, 1, none⟩ = some (.int .i64 y) := blk_cell HLl.out 1
       clear rl kl kl')
    | (go_at_call 32
       refine (dtell_calls w0 _ gd (d3.sym (icdf 6)) Tl.out.dec HD4.out).mono ?_
       rintro r wm ⟨rfl, nm, rfl⟩)
    | (go_at_call 33
       refine (rtell_calls w1 _ w2.heap.size (d3.sym (icdf 6)) (Tl.out.no ((Chg.refl _ No).drewN _)).ref HD4.out).mono ?_
       rintro r wp ⟨rfl, rp, kp⟩
       have Tp := Aside0.mk ((Tl.out.no ((Chg.refl _ No).drewN _)).toRef T0.out.2 rp kp).chg
       have HLp := Aside0.mk (kp.blk (blk_drewN HLl.out _) (fun hh => hLd2 (Eq.symm hh)))
       have yp0 : wp.cell? ⟨L, 0, none⟩ = some (.int .i64 (least + q)) := blk_cell HLp.out 0
       have yp1 : wp.cell? ⟨L, 1, none⟩ = some (.int .i64 y) := blk_cell HLp.out 1
       clear rp kp)
    | (go_at_call 20
       refine (loud_calls _ g).mono ?_
       rintro r wq ⟨rfl, kq⟩
       have HLq := Aside0.mk (And.intro (kq.blk HLp.out (fun h => h)) (Tp.out.trans kq (Ext.refl _ _)))
       have yq0 : wq.cell? ⟨L, 0, none⟩ = some (.int .i64 (least + q)) := blk_cell HLq.out.1 0
       have yq1 : wq.cell? ⟨L, 1, none⟩ = some (.int .i64 y) := blk_cell HLq.out.1 1
       clear kq)
    | (go_at_call 34
       refine (madrigalref6_Loud.calls 20 g (loud g) _ (loud3_f g)).mono ?_
       rintro r wr ⟨rfl, kr⟩
       have HLr := Aside0.mk (And.intro (blk_below HLq.out.1 kr) (HLq.out.2.trans (Chg.of_below kr No) (Ext.refl _ _)))
       have yr0 : wr.cell? ⟨L, 0, none⟩ = some (.int .i64 (least + q)) := blk_cell HLr.out.1 0
       have yr1 : wr.cell? ⟨L, 1, none⟩ = some (.int .i64 y) := blk_cell HLr.out.1 1
       clear kr)
    | (go_at_call 19
       refine (nearest_calls _ v).mono ?_
       rintro r ws ⟨rfl, ks⟩
       have HLs := Aside0.mk (And.intro (ks.blk HLr.out.1 (fun h => h)) (HLr.out.2.trans ks (Ext.refl _ _)))
       have ys0 : ws.cell? ⟨L, 0, none⟩ = some (.int .i64 (least + q)) := blk_cell HLs.out.1 0
       have ys1 : ws.cell? ⟨L, 1, none⟩ = some (.int .i64 y) := blk_cell HLs.out.1 1
       clear ks)
    | (go_at_call 35
       refine (madrigalref6_Nearest.calls 100 v (nearest v : Int) _ (near3_f v hv0 hv1)).mono ?_
       rintro r wt ⟨rfl, kt⟩
       have HLt := Aside0.mk (And.intro (blk_below HLs.out.1 kt) (HLs.out.2.trans (Chg.of_below kt No) (Ext.refl _ _)))
       have yt0 : wt.cell? ⟨L, 0, none⟩ = some (.int .i64 (least + q)) := blk_cell HLt.out.1 0
       have yt1 : wt.cell? ⟨L, 1, none⟩ = some (.int .i64 y) := blk_cell HLt.out.1 1
       clear kt))
  go_wp2_with fail
  go_returns
  exact ⟨rfl, HLt.out.2.below_no⟩
end Go.Proofs.Ytiabenmgbikllaa.M

-- A slice that came in, as its row tells it, reads as a list. Conditions: none.
namespace Go.Proofs.Ytiabenmgbikllaa.M
set_option linter.unusedVariables false
open Go.ChangeShapes Go.WideShapes Go.ChangeAt Go.RowKit Go.Proofs.YtiabenmgbikllaaW.PrintWords Go.Proofs.YtiabenmgbikllaaW.PrintLast Go.Proofs.YtiabenmgbikllaaW.PrintMore
theorem laidOut : laidOutB Try.prog = true := by kernel_rfl
/-- Each number is of the kind. -/
def OfKind (k : IntKind) (l : List Int) : Prop := ∀ x ∈ l, (Lit.int k x).wf = true
theorem open_row {H : Type} {enc : TypeId × Value → H} {W : World} {base : Nat} {held : Bool} {t e : TypeId} {k : IntKind} {a : Option Addr} {len cap : Nat} {d : DataW H} {ps : List MemPlace}
    (hu : Try.prog.underlying t = some (.slice e)) (he : Try.prog.underlying e = some (.int k)) (hc : Try.prog.cellsOf e = 1)
    (h : DataW.Trod enc Try.prog W base (fun _ => true) held t (.slice a len cap) d ps) (hlen : len ≤ 9223372036854775807) :
    ∃ b : List Int, b.length = len ∧ Rd W k (.slice a len cap) b ∧ OfKind k b := by
  obtain ⟨fuel, hf⟩ := h
  rcases open_ints hu he hc hf with ⟨hcs, _⟩ | ⟨x, l, c, zs, hcs, _, hl, hm, hz, _, hcell, hwz⟩
  · simp [Value.cells] at hcs
    obtain ⟨rfl, rfl, rfl⟩ := hcs
    exact ⟨[], rfl, .inl ⟨rfl, rfl⟩, fun _ h => by simp at h⟩
  · simp [Value.cells] at hcs
    obtain ⟨rfl, rfl, rfl⟩ := hcs
    have hz' : zs.length = cap := by simpa using hz
    have hb : (zs.take len).length = len := by simp; omega
    refine ⟨zs.take len, hb, .inr ⟨x, cap, by rw [hb], by omega, rfl, by omega, fun hn => ⟨x, rfl, fun j hj => ?_⟩⟩, fun y hy => hwz y (List.mem_of_mem_take hy)⟩
    rw [hb] at hj
    rw [hcell j (by omega), show (zs.take len).getD j 0 = zs.getD j 0 from by simp [List.getD, hj]]
theorem OfKind.bytes {l : List Int} (h : OfKind .u8 l) : Bytes l := fun x hx => by
  have := h x hx
  simp only [Lit.wf, Bool.and_eq_true, decide_eq_true_eq] at this
  have e1 : IntKind.u8.min = 0 := by decide
  have e2 : IntKind.u8.max = 255 := by decide
  omega
theorem OfKind.i64 {l : List Int} (h : OfKind .i64 l) : ∀ x ∈ l, -9223372036854775808 ≤ x ∧ x ≤ 9223372036854775807 := fun x hx => by
  have := h x hx
  simp only [Lit.wf, Bool.and_eq_true, decide_eq_true_eq] at this
  exact this
theorem wf_i64 {x : Int} (h : (Lit.int .i64 x).wf = true) : -9223372036854775808 ≤ x ∧ x ≤ 9223372036854775807 := by
  simp only [Lit.wf, Bool.and_eq_true, decide_eq_true_eq] at h
  exact h
end Go.Proofs.Ytiabenmgbikllaa.M
