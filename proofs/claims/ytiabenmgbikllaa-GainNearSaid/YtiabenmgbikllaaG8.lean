/- The self-check of the chapter on loudness answers yes. Conditions: none. -/
import Derived.Test.YtiabenmgbikllaaG7
namespace Go.Proofs.Ytiabenmgbikllaa.M
set_option linter.unusedVariables false
open Go.RowKit Go.Proofs.YtiabenmgbikllaaW.PrintWords Go.Proofs.YtiabenmgbikllaaW.PrintLast Go.Proofs.YtiabenmgbikllaaW.PrintMore Go.Proofs.Ytiabenmgbikllaa.PAll
attribute [local go_sem] max2_int min2_int max_two min_two max_three min_three max_four min_four

theorem D.firstD_ok (d : D) (h : DOk d) (hk : d.count ≤ 800000000000000000) : DOk d.firstD ∧ d.firstD.count ≤ d.count + 48 ∧ d.firstD.b = d.b := by
  obtain ⟨a1, a2, a3, _⟩ := sym_ok d h (icdf 1) (icdf_ok 1 (by omega)) (icdf_pos 1) (by omega)
  obtain ⟨b1, b2, b3, _⟩ := small_ok _ a1 8 (by omega) (by omega) (by omega)
  exact ⟨b1, by unfold D.firstD; omega, b3.trans a3⟩
theorem D.nextD_ok (d : D) (h : DOk d) (hk : d.count ≤ 800000000000000000) : DOk d.nextD ∧ d.nextD.count ≤ d.count + 48 ∧ d.nextD.b = d.b := by
  obtain ⟨a1, a2, a3, _⟩ := sym_ok d h (icdf 2) (icdf_ok 2 (by omega)) (icdf_pos 2) (by omega)
  exact ⟨a1, by unfold D.nextD; omega, a3⟩
theorem eok_new : EOk E.new := eok_of _ (by decide +kernel)
set_option maxHeartbeats 2000000 in
set_option maxRecDepth 100000 in
theorem awake_calls (w : World) : Calls Try.prog 18 #[] w fun r w' => r = .returned (.bool true) ∧ Chg w w' No := by
  obtain ⟨k1, k2, k3, k4, k5, k6⟩ := ge_ok
  have K := Aside0.mk (And.intro k1 (And.intro k2 (And.intro k3 (And.intro k4 (And.intro k5 k6)))))
  clear k1 k2 k3 k4 k5 k6
  go_enter Try.func18, Try.ntmps18
  go_wp2_with (first
    | (go_at_call 38; refine (enew_calls _).mono ?_; rintro r w1 ⟨rfl, a1, b1⟩; have H1 := Aside0.mk (And.intro a1 b1); clear a1 b1)
    | (go_at_call 62; refine (wfirst_calls w1 _ _ E.new 33 H1.out.1 (eok_new) K.out.1 (by omega) (by omega)).mono ?_; rintro r w2 ⟨rfl, f2, a2, b2, c2⟩; have H2 := Aside0.mk (And.intro a2 (And.intro b2 c2)); clear a2 b2 c2)
    | (go_at_call 63; refine (wnext_calls w2 f2 _ ge1 60 33 H2.out.1 K.out.2.1).mono ?_; rintro r w3 ⟨rfl, f3, a3, b3, c3⟩; have H3 := Aside0.mk (And.intro a3 (And.intro b3 c3)); clear a3 b3 c3; rw [g_next])
    | (go_at_call 64; refine (wltp_calls _ f3 _ ge2 100 3 (H3.out.1.chg (Chg.refl w3 No) (fun _ _ h => h)) K.out.2.2.1 K.out.2.2.2.1 (by omega) (by omega) (by omega) (by omega)).mono ?_; rintro r w4 ⟨rfl, f4, a4, b4, c4⟩; have H4 := Aside0.mk (And.intro a4 (And.intro b4 c4)); clear a4 b4 c4)
    | (go_at_call 44; refine (edone_calls w4 f4 _ ge3 20 H4.out.1 K.out.2.2.2.2.1 K.out.2.2.2.2.2 (by omega) ge_tell).mono ?_; rintro r w5 ⟨v, rfl, a5, b5, c5⟩; have H5 := Aside0.mk (And.intro a5 (And.intro b5 c5)); clear a5 b5 c5)
    | (go_at_call 21; refine (dnew_calls w5 v gx (Rd.own H5.out.1) gx_bytes (by rw [gx_len]; omega)).mono ?_; rintro r w6 ⟨w0, g, rfl, a6, b6, c6⟩; have H6 := Aside0.mk (And.intro a6 (And.intro b6 c6)); clear a6 b6 c6)
    | (go_at_call 30; refine (lags_calls _).mono ?_; rintro r w7 ⟨rfl, n7, rfl⟩)
    )
  have Z : Aside0 (Chg w (w6.drewN n7) No ∧ DecAt w0 (w6.drewN n7) g gd0 ∧ w.heap.size ≤ w0.heap.size) := by
    obtain ⟨p1, p2⟩ : Chg w w1 No ∧ Ext w No (One w.heap.size) := ⟨H1.out.2, Ext.new (fun k hk => by rw [show k = w.heap.size from hk]; omega)⟩
    have p3 : Chg w w2 No ∧ Ext w No f2 := ⟨p1.trans H2.out.2.1 p2, p2.trans p1.size H2.out.2.2⟩
    have p4 : Chg w w3 No ∧ Ext w No f3 := ⟨p3.1.trans H3.out.2.1 p3.2, p3.2.trans p3.1.size H3.out.2.2⟩
    have p5 : Chg w w4 No := p4.1.trans H4.out.2.1 p4.2
    have p6 : Chg w w5 No := p5.trans H5.out.2.1 (Ext.refl _ _)
    have p7 : Chg w (w6.drewN n7) No := (p6.trans H6.out.2.1 (Ext.refl _ _)).drewN n7
    exact ⟨p7, H6.out.1.chg ((Chg.refl w6 No).drewN n7) (fun h => h) (fun _ h => h.elim), by have := p6.size; have := H6.out.2.2; omega⟩
  generalize w6.drewN n7 = W at *
  clear H1 H2 H3 H4 H5 H6 K
  obtain ⟨r0, r1, r2⟩ := new_ok gx gx_bytes (by rw [gx_len]; omega)
  obtain ⟨s0, s1, s2⟩ := D.firstD_ok gd0 r0 (by show (D.new gx).count ≤ _; omega)
  obtain ⟨t0, t1, t2⟩ := D.nextD_ok gd1 s0 (by show gd0.firstD.count ≤ _; have : gd0.count ≤ 33 := r1; omega)
  obtain ⟨v0, v1, v2, v3⟩ := gd_reads
  obtain ⟨l0, l1⟩ := g_loud
  have K := Aside0.mk (And.intro r0 (And.intro s0 t0))
  have q0 : gd0.count ≤ 800000000000000000 := by show (D.new gx).count ≤ _; omega
  have q1 : gd1.count ≤ 800000000000000000 := by show gd0.firstD.count ≤ _; have : gd0.count ≤ 33 := r1; omega
  have q2 : gd2.count ≤ 800000000000000000 := by show gd1.nextD.count ≤ _; have : gd0.count ≤ 33 := r1; have : gd1.count ≤ gd0.count + 48 := s1; omega
  clear r0 r1 r2 s0 s1 s2 t0 t1 t2
  go_wp2_with (first
    | (go_at_call 26; refine (rfirst_calls w0 _ g gd0 Z.out.2.1 K.out.1 q0).mono ?_; rintro r w7 ⟨rfl, a7, b7⟩; have H7 := Aside0.mk (And.intro a7 b7); clear a7 b7; rw [v0])
    | (go_at_call 28; refine (rnext_calls w0 w7 g gd1 33 H7.out.1 K.out.2.1 q1).mono ?_; rintro r w8 ⟨rfl, a8, b8⟩; have H8 := Aside0.mk (And.intro a8 b8); clear a8 b8; rw [v1])
    | (go_at_call 31; refine (rltp_calls w0 w8 g gd2 H8.out.1 K.out.2.2 q2).mono ?_; rintro r w9 ⟨rfl, a9, b9⟩; have H9 := Aside0.mk (And.intro a9 b9); clear a9 b9; rw [v2, v3])
    | (go_at_call 20; refine (loud_calls _ 0).mono ?_; rintro r w10 ⟨rfl, b10⟩; rw [l0])
    | (go_at_call 19; refine (nearest_calls _ 1).mono ?_; rintro r w11 ⟨rfl, b11⟩; rw [l1]))
  go_returns
  have hs : Ext w No (One g) := Ext.new (fun k hk => by rw [show k = g from hk]; have := Z.out.2.1.ge; have := Z.out.2.2; omega)
  refine ⟨rfl, ?_⟩
  have p7 := Z.out.1.trans H7.out.2 hs
  have p8 := p7.trans H8.out.2 hs
  have p9 := p8.trans H9.out.2 hs
  exact (p9.trans b10 (Ext.refl _ _)).trans b11 (Ext.refl _ _)
end Go.Proofs.Ytiabenmgbikllaa.M
