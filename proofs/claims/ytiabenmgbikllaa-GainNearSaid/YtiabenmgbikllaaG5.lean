/- Loudness, and what repeats, are read. Conditions: bounds on the numbers. -/
import Derived.Test.YtiabenmgbikllaaG4
namespace Go.Proofs.Ytiabenmgbikllaa.M
set_option linter.unusedVariables false
open Go.RowKit Go.Proofs.YtiabenmgbikllaaW.PrintWords Go.Proofs.YtiabenmgbikllaaW.PrintLast Go.Proofs.YtiabenmgbikllaaW.PrintMore Go.Proofs.Ytiabenmgbikllaa.PAll
attribute [local go_sem] max2_int min2_int max_two min_two max_three min_three max_four min_four

theorem dsym_at (w0 w w1 : World) (g : Nat) (d : D) (i : Nat) (v : Value) (h : DecAt w0 w g d) (hd : DOk d) (hi : i < 7) (ht : TabAt w w1 (icdf i) v) (hk : d.count ≤ 900000000000000000) :
    Calls Try.prog 87 #[.pointer (some ⟨g, 0, none⟩), v] w1 fun r w' => r = .returned (.int .i64 (d.symV (icdf i))) ∧ DecAt w0 w' g (d.sym (icdf i)) ∧ Chg w w' (One g) := by
  obtain ⟨A, c, rfl, hr, hc, hb, hch⟩ := ht
  exact (dsym_calls w0 w1 g d (icdf i) A c (h.chg hch (fun hh => hh) (fun _ hh => hh.elim)) hd (icdf_ok i hi) (icdf_pos i) hr hc (fun ad ha hh => by have := hb ad ha; have := h.lt; omega) hk).mono
    fun r w' ⟨hr, h1, h2⟩ => ⟨hr, h1, (hch.mono (fun _ hh => hh.elim)).trans h2 (Ext.refl _ _)⟩

set_option maxHeartbeats 1000000 in
set_option maxRecDepth 100000 in
theorem symbol_calls (w0 : World) (g : Nat) (d : D) (i : Nat) (hd : DOk d) (hi : i < 7) (hk : d.count ≤ 900000000000000000) : ReadsAs w0 g 80 i d (d.sym (icdf i)) (d.symV (icdf i)) := by
  intro w h
  have HH := Aside0.mk (And.intro h hd)
  clear h hd
  go_enter Try.func80, Try.ntmps80
  go_wp2_with (first
    | (go_at_call 88; refine (icdf_calls _ i hi).mono ?_; rintro r w1 ⟨v1, rfl, h1⟩; have H1 := Aside0.mk h1; clear h1)
    | (go_at_call 87; refine (dsym_at w0 w w1 g d i v1 HH.out.1 HH.out.2 hi H1.out hk).mono ?_; rintro r w2 ⟨rfl, h2⟩; have H2 := Aside0.mk h2; clear h2))
  go_returns
  exact ⟨rfl, H2.out⟩
theorem small_reads (w0 : World) (g : Nat) (d : D) (ft : Int) (hd : DOk d) (f0 : 2 ≤ ft) (f1 : ft ≤ 256) (hk : d.count ≤ 900000000000000000) : ReadsAs w0 g 81 ft d (d.small ft) (d.choose ft) :=
  fun w h => dsmall_calls w0 w g d ft h hd f0 f1 hk

theorem own_two {w : World} {e : TypeId} {n : Nat} {z : Value} {xs : List Value} (h : w.ownsRow 0 e 1 z (n + 1) xs) : ∃ b cap, z = .slice (some ⟨b, 0, none⟩) (n + 1) cap := by
  rcases h.2 with ⟨_, h0⟩ | ⟨b, cap, _, hv, _⟩
  · omega
  · exact ⟨b, cap, hv⟩
/-- A loudness is read. -/
def D.firstV (d : D) : Int := 8 * d.symV (icdf 1) + (d.sym (icdf 1)).choose 8
def D.firstD (d : D) : D := (d.sym (icdf 1)).small 8
theorem small_ok (d : D) (h : DOk d) (ft : Int) (f0 : 1 ≤ ft) (f1 : ft ≤ 32768) (hk : d.count ≤ 900000000000000000) : DOk (d.small ft) ∧ (d.small ft).count ≤ d.count + 24 ∧ (d.small ft).b = d.b ∧ 0 ≤ d.choose ft ∧ d.choose ft < ft := by
  have hp := small_place d h ft f0 f1
  obtain ⟨a, b, c⟩ := take_ok d h _ _ ft hp hk
  have := hp.a0
  have := hp.a1
  have := hp.a2
  exact ⟨a, b, c, by omega, by omega⟩

set_option maxHeartbeats 1000000 in
set_option maxRecDepth 100000 in
theorem rfirst_calls (w0 w : World) (g : Nat) (d : D) (h : DecAt w0 w g d) (hd : DOk d) (hk : d.count ≤ 800000000000000000) :
    Calls Try.prog 26 #[.pointer (some ⟨g, 0, none⟩)] w fun r w' => r = .returned (.int .i64 d.firstV) ∧ DecAt w0 w' g d.firstD ∧ Chg w w' (One g) := by
  obtain ⟨s1, s2, s3, s4, s5⟩ := sym_ok d hd (icdf 1) (icdf_ok 1 (by omega)) (icdf_pos 1) (by omega)
  obtain ⟨t1, t2, t3, t4, t5⟩ := small_ok (d.sym (icdf 1)) s1 8 (by omega) (by omega) (by omega)
  have s5' : d.symV (icdf 1) < 8 := s5
  have HH := Aside0.mk (And.intro h (And.intro (symbol_calls w0 g d 1 hd (by omega) (by omega)) (small_reads w0 g _ 8 s1 (by omega) (by omega) (by omega))))
  have hg := h.lt
  clear h hd s1 t1 s5
  go_enter Try.func26, Try.ntmps26
  go_wp2_with fail
  refine (together80_calls w0 _ g w.heap.size d _ _ 1 8 _ _ (HH.out.1.chg ((Chg.refl w No).alloc _) (fun h => h) (fun _ h => h.elim)) HH.out.2.1 HH.out.2.2 (by omega) (heap_alloc_new w _)).mono ?_
  rintro r w1 ⟨z, rfl, h1, h2, h3, h4⟩
  obtain ⟨b, cap, rfl⟩ := own_two h1
  have q0 := (own_at h1 0 (by omega) (by omega)).1
  have q1 := (own_at h1 1 (by omega) (by omega)).1
  have e0 : w1.cell? ⟨b, 0, none⟩ = some (.int .i64 (d.symV (icdf 1))) := q0
  have e1 : w1.cell? ⟨b, 1, none⟩ = some (.int .i64 ((d.sym (icdf 1)).choose 8)) := q1
  clear q0 q1
  have H2 := Aside0.mk (And.intro h2 (((Chg.refl w (One g)).alloc _).trans h3 (Ext.refl _ _)))
  clear h1 h2 h3 h4
  go_wp2_with fail
  have a1 : IntKind.i64.wrap (8 * d.symV (icdf 1)) = 8 * d.symV (icdf 1) := IntWalk.i64_in _ (by omega)
  have a2 : IntKind.i64.wrap (8 * d.symV (icdf 1) + (d.sym (icdf 1)).choose 8) = 8 * d.symV (icdf 1) + (d.sym (icdf 1)).choose 8 := IntWalk.i64_in _ (by omega)
  go_region
  all_goals
    go_wp2_with fail
    go_returns
    exact ⟨rfl, H2.out.1.chg ((Chg.refl w1 No).drew) (fun h => h) (fun _ h => h.elim), H2.out.2.drew⟩

/-- A loudness' change is read. -/
def D.nextV' (d : D) (was : Int) : Int := gcl (gcl was + d.symV (icdf 2) - 8)
def D.nextD (d : D) : D := d.sym (icdf 2)
set_option maxHeartbeats 1000000 in
set_option maxRecDepth 100000 in
theorem rnext_calls (w0 w : World) (g : Nat) (d : D) (was : Int) (h : DecAt w0 w g d) (hd : DOk d) (hk : d.count ≤ 800000000000000000) :
    Calls Try.prog 28 #[.pointer (some ⟨g, 0, none⟩), .int .i64 was] w fun r w' => r = .returned (.int .i64 (d.nextV' was)) ∧ DecAt w0 w' g d.nextD ∧ Chg w w' (One g) := by
  obtain ⟨s1, s2, s3, s4, s5⟩ := sym_ok d hd (icdf 2) (icdf_ok 2 (by omega)) (icdf_pos 2) (by omega)
  have s5' : d.symV (icdf 2) < 17 := s5
  have HH := Aside0.mk (And.intro h (symbol_calls w0 g d 2 hd (by omega) (by omega)))
  obtain ⟨y0, y1⟩ := gcl_range was
  clear h hd s1 s5
  go_enter Try.func28, Try.ntmps28
  go_wp2_with fail
  refine (gclamp_calls w was).mono ?_
  rintro r w1 ⟨rfl, h1⟩
  have H1 := Aside0.mk h1
  clear h1
  go_wp2_with fail
  refine (HH.out.2 w1 (HH.out.1.chg H1.out (fun h => h) (fun _ h => h.elim))).mono ?_
  rintro r w2 ⟨rfl, h2, h2'⟩
  have H2 := Aside0.mk (And.intro h2 h2')
  clear h2 h2'
  go_wp2_with fail
  refine (gclamp_calls w2 _).mono ?_
  rintro r w3 ⟨rfl, h3⟩
  have H3 : Aside0 (DecAt w0 w3 g d.nextD ∧ Chg w w3 (One g)) := ⟨H2.out.1.chg h3 (fun h => h) (fun _ h => h.elim), ((H1.out.mono (fun _ h => h.elim)).trans H2.out.2 (Ext.refl _ _)).trans h3 (fun _ h => h.elim)⟩
  clear h3
  go_wp2_with fail
  go_returns
  exact ⟨rfl, H3.out⟩

theorem lags_calls (w : World) : Calls Try.prog 30 #[.int .i64 8000] w fun r w' => r = .returned (.tuple #[.int .i64 16, .int .i64 144]) ∧ ∃ n, w' = w.drewN n :=
  (gain_Lags.calls 8000 16 144 w (by decide +kernel)).mono fun r w' ⟨h1, h2⟩ => ⟨h1, h2.out⟩

/-- What repeats is read (at the narrow rate). -/
def D.ltpD (d : D) : D := (d.small 129).sym (icdf 6)
def D.ltpLag (d : D) : Int := 16 + d.choose 129
def D.ltpTaps (d : D) : Int := (d.small 129).symV (icdf 6)
set_option maxHeartbeats 1000000 in
set_option maxRecDepth 100000 in
theorem rltp_calls (w0 w : World) (g : Nat) (d : D) (h : DecAt w0 w g d) (hd : DOk d) (hk : d.count ≤ 800000000000000000) :
    Calls Try.prog 31 #[.pointer (some ⟨g, 0, none⟩), .int .i64 8000] w fun r w' => r = .returned (.agg #[.int .i64 d.ltpLag, .int .i64 d.ltpTaps]) ∧ DecAt w0 w' g d.ltpD ∧ Chg w w' (One g) := by
  obtain ⟨t1, t2, t3, t4, t5⟩ := small_ok d hd 129 (by omega) (by omega) (by omega)
  obtain ⟨s1, s2, s3, s4, s5⟩ := sym_ok (d.small 129) t1 (icdf 6) (icdf_ok 6 (by omega)) (icdf_pos 6) (by omega)
  have s5' : (d.small 129).symV (icdf 6) < 8 := s5
  have HH := Aside0.mk (And.intro h (And.intro (small_reads w0 g d 129 hd (by omega) (by omega) (by omega)) (symbol_calls w0 g (d.small 129) 6 t1 (by omega) (by omega))))
  have hg := h.lt
  clear h hd s1 t1 s5
  go_enter Try.func31, Try.ntmps31
  go_wp2_with (go_at_call 30; refine (lags_calls _).mono ?_; rintro r w1 ⟨rfl, n1, rfl⟩)
  have hnew : (((w.alloc (.cells #[.int .i64 0, .int .i64 0] 39)).drewN n1).alloc (.cells #[.func (.func 81) #[] #[], .int .i64 129, .func (.func 80) #[] #[], .int .i64 6] 101)).heap[w.heap.size + 1]? = some (.cells #[.func (.func 81) #[] #[], .int .i64 129, .func (.func 80) #[] #[], .int .i64 6] 101 (0, 0)) := by
    have hh := heap_alloc_new ((w.alloc (.cells #[.int .i64 0, .int .i64 0] 39)).drewN n1) (.cells #[.func (.func 81) #[] #[], .int .i64 129, .func (.func 80) #[] #[], .int .i64 6] 101)
    rw [show ((w.alloc (.cells #[.int .i64 0, .int .i64 0] 39)).drewN n1).heap.size = w.heap.size + 1 from by simp] at hh
    exact hh
  have HNEW := Aside0.mk hnew
  clear hnew
  refine (together81_calls w0 _ g _ d _ _ 129 6 _ _ (HH.out.1.chg ((((Chg.refl w No).alloc _).drewN n1).alloc _) (fun h => h) (fun _ h => h.elim)) HH.out.2.1 HH.out.2.2 (by omega) HNEW.out).mono ?_
  rintro r w1 ⟨z, rfl, h1, h2, h3, h4⟩
  obtain ⟨b, cap, rfl⟩ := own_two h1
  have q0 := (own_at h1 0 (by omega) (by omega)).1
  have q1 := (own_at h1 1 (by omega) (by omega)).1
  have e0 : w1.cell? ⟨b, 0, none⟩ = some (.int .i64 (d.choose 129)) := q0
  have e1 : w1.cell? ⟨b, 1, none⟩ = some (.int .i64 ((d.small 129).symV (icdf 6))) := q1
  clear q0 q1
  have HX := Aside0.mk (And.intro h2 (((((Chg.refl w (One g)).alloc _).drewN n1).alloc _).trans h3 (Ext.refl _ _)))
  have hr : w1.heap[w.heap.size]? = some (.cells #[.int .i64 0, .int .i64 0] 39 (0, 0)) :=
    (h3.block w.heap.size (by simp; omega) (fun hh => by have hh' : w.heap.size = g := hh; omega)).trans (blk_alloc (blk_drewN (heap_alloc_new w _) n1) _)
  have r0 : w1.cell? ⟨w.heap.size, 0, none⟩ = some (.int .i64 0) := blk_cell hr 0
  have r1 : w1.cell? ⟨w.heap.size, 1, none⟩ = some (.int .i64 0) := blk_cell hr 1
  have z0 := blk_frozen hr 0
  have z1 := blk_frozen hr 1
  have hbn : b ≠ w.heap.size := fun hh => by
    have := own_ne h1 hr (by decide)
    exact this (by rw [hh]; rfl)
  have HRR := Aside0.mk hr
  clear h2 h3 h4 h1 hr
  have a2 : IntKind.i64.wrap (16 + d.choose 129) = 16 + d.choose 129 := IntWalk.i64_in _ (by omega)
  go_wp2_with fail
  go_region
  all_goals
    go_wp2_with fail
    have hfin := blk_put (blk_put HRR.out 0 (.int .i64 (16 + d.choose 129)) rfl) 1 (.int .i64 ((d.small 129).symV (icdf 6))) rfl
    have f0 := blk_cell hfin 0
    have f1 := blk_cell hfin 1
    refine bodyPost_ret (v := .agg #[.int .i64 d.ltpLag, .int .i64 d.ltpTaps]) ?_ rfl ⟨rfl, ?_⟩
    · clear r0 r1 z0 z1 e0 e1
      simp [results, Try.results31, go_sem, D.ltpLag, D.ltpTaps, f0, f1]
    · have hge := HH.out.1.ge
      have hgn : ¬ One w.heap.size g := fun hh => by have hh' : g = w.heap.size := hh; omega
      have hgo : Ge w0.heap.size (One w.heap.size) := fun b' hb' => by have hh' : b' = w.heap.size := hb'; omega
      have kc : Chg w1 (((w1.setCell ⟨w.heap.size, 0, none⟩ (.int .i64 (16 + d.choose 129))).setCell ⟨w.heap.size, 1, none⟩ (.int .i64 ((d.small 129).symV (icdf 6)))).drew) (One w.heap.size) := by
        have k1 : Chg w1 (w1.setCell ⟨w.heap.size, 0, none⟩ (.int .i64 (16 + d.choose 129))) (One w.heap.size) := Chg.setCell (p := ⟨w.heap.size, 0, none⟩) (Chg.refl w1 (One w.heap.size)) (Or.inl (show One w.heap.size w.heap.size from rfl)) _
        exact (Chg.setCell (p := ⟨w.heap.size, 1, none⟩) k1 (Or.inl (show One w.heap.size w.heap.size from rfl)) _).drew
      refine ⟨HX.out.1.chg kc hgn hgo, ?_⟩
      refine Chg.drew ?_
      refine Chg.setCell ?_ (.inr (Nat.le_refl _)) _
      refine Chg.setCell ?_ (.inr (Nat.le_refl _)) _
      exact HX.out.2
end Go.Proofs.Ytiabenmgbikllaa.M
