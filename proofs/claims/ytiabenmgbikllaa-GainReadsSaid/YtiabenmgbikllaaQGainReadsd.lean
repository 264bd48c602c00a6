/- Contracts of the program's functions and plain laws for the law GainReads, several texts in one (part 4). Conditions: each theorem's own. -/
import Derived.Test.YtiabenmgbikllaaQGainReadsc
import Derived.Laws.EntriesVeiled
import Derived.Maps.RangeWalk
import Derived.Test.YtiabenmgbikllaaQGainReadsa
import Derived.Handy
import Derived.Outline
import Derived.Laws.CopyOwn
import Derived.Test.YtiabenmgbikllaaPAllx2
import Derived.Test.YtiabenmgbikllaaQGainReadsb
import Derived.StillTailTactics
-- Parts are read one behind the other: two of them. Conditions: each part's function keeps to its contract.
namespace Go.Proofs.Ytiabenmgbikllaa.M
set_option linter.unusedVariables false
open Go.RowKit Go.Proofs.YtiabenmgbikllaaW.PrintWords Go.Proofs.YtiabenmgbikllaaW.PrintLast Go.Proofs.YtiabenmgbikllaaW.PrintMore Go.Proofs.Ytiabenmgbikllaa.PAll
attribute [local go_sem] max2_int min2_int max_two min_two max_three min_three max_four min_four

theorem info3' : (Try.prog.info? 3).map (fun i => (i.zero, i.size, i.bytes)) = some (some (.int .i64 0), 1, 8) := by kernel_rfl
/-- What a reading function does: it tells v and leaves the reader as d'. -/
def ReadsAs (w0 : World) (g : Nat) (p : FuncId) (k : Int) (d d' : D) (v : Int) : Prop :=
  ∀ w, DecAt w0 w g d → Calls Try.prog p #[.pointer (some ⟨g, 0, none⟩), .int .i64 k] w fun r w' => r = .returned (.int .i64 v) ∧ DecAt w0 w' g d' ∧ Chg w w' (One g)

set_option maxHeartbeats 2000000 in
set_option maxRecDepth 100000 in
theorem together80_calls (w0 w : World) (g pb : Nat) (d d1 d2 : D) (k l v u : Int) (h : DecAt w0 w g d) (hp : ReadsAs w0 g 80 k d d1 v) (hq : ReadsAs w0 g 81 l d1 d2 u) (hne : pb ≠ g)
    (hb : w.heap[pb]? = some (.cells #[.func (.func 80) #[] #[], .int .i64 k, .func (.func 81) #[] #[], .int .i64 l] 101 (0, 0))) :
    Calls Try.prog 79 #[.pointer (some ⟨g, 0, none⟩), .slice (some ⟨pb, 0, none⟩) 2 2] w fun r w' => ∃ z, r = .returned z ∧ w'.ownsRow 0 3 1 z 2 (nums .i64 [v, u]) ∧ DecAt w0 w' g d2 ∧ Chg w w' (One g) ∧ Ge w.heap.size (blkOf z) := by
  have HH := Aside0.mk (And.intro h (And.intro hp (And.intro hq hb)))
  have c0 : w.cell? ⟨pb, 0, none⟩ = some (.func (.func 80) #[] #[]) := blk_cell hb 0
  have c1 : w.cell? ⟨pb, 1, none⟩ = some (.int .i64 k) := blk_cell hb 1
  have hlt := blk_lt hb
  have hg := h.lt
  clear h hp hq hb
  go_enter Try.func79, Try.ntmps79
  go_wp2
  refine wp_loop_rounds 3 ?_
  rw [rounds_succ]
  go_wp2_with fail
  refine (HH.out.2.1 _ (HH.out.1.chg ((Chg.refl w No).alloc _) (fun h => h) (fun _ h => h.elim))).mono ?_
  rintro r w1 ⟨rfl, h1, k1⟩
  have H1 : Aside0 (DecAt w0 w1 g d1 ∧ Chg w w1 (One g)) := ⟨h1, ((Chg.refl w (One g)).alloc _).trans k1 (Ext.refl _ _)⟩
  clear h1 k1
  go_wp2_with (at_builtin; refine app1 rfl (.tmp 14) (.tmp 21) 32 3 .i64 8 rfl Try.underlying32 info3' (by omega) (.slice none 0 0) [] v rfl rfl (own_nil _ _ _ _) (by simp) ?_; intro v1 w2 ho2 hc2 hx2)
  obtain ⟨A2, n2, hv1⟩ := own_slice ho2
  rw [show ([] ++ [v] : List Int).length = 1 from rfl] at hv1
  subst hv1
  have hc2' : Chg w w2 (One g) := H1.out.2.trans hc2 (fun k hk => by cases hk)
  have hb2 := hc2'.blk HH.out.2.2.2 hne
  have e0 : w2.cell? ⟨pb, 2, none⟩ = some (.func (.func 81) #[] #[]) := blk_cell hb2 2
  have e1 : w2.cell? ⟨pb, 3, none⟩ = some (.int .i64 l) := blk_cell hb2 3
  have hl2 := blk_lt hb2
  have hge2 : Ge w.heap.size (blkOf (.slice A2 1 n2)) := (Ge.ext (B := w.heap.size) (f := blkOf (.slice none 0 0)) (fun k hk => by cases hk) H1.out.2.size hx2)
  have H2 : Aside0 (DecAt w0 w2 g d1 ∧ Chg w w2 (One g) ∧ w2.ownsRow 0 3 1 (.slice A2 1 n2) 1 (nums .i64 [v]) ∧ Ge w.heap.size (blkOf (.slice A2 1 n2))) :=
    ⟨H1.out.1.chg hc2 (fun hk => by cases hk) (fun k hk => by cases hk), hc2', ho2, hge2⟩
  clear ho2 hc2 hx2 hc2' hb2 hge2 c0 c1
  try go_frame
  rw [rounds_succ]
  go_wp2_with fail
  refine (HH.out.2.2.1 _ (H2.out.1.chg ((Chg.refl w2 No).alloc _) (fun h => h) (fun _ h => h.elim))).mono ?_
  rintro r w3 ⟨rfl, h3, k3⟩
  have k3' := ((Chg.refl w2 (One g)).alloc _).trans k3 (Ext.refl _ _)
  have H3 : Aside0 (DecAt w0 w3 g d2 ∧ Chg w w3 (One g) ∧ w3.ownsRow 0 3 1 (.slice A2 1 n2) 1 (nums .i64 [v])) :=
    ⟨h3, H2.out.2.1.trans k3' (Ext.refl _ _), k3'.own H2.out.2.2.1 (fun b hb hh => by have := H2.out.2.2.2 b hb; have hh' : b = g := hh; omega)⟩
  clear h3 k3 k3'
  go_wp2_with (at_builtin; refine app1 rfl (.tmp 14) (.tmp 21) 32 3 .i64 8 rfl Try.underlying32 info3' (by omega) (.slice A2 1 n2) [v] u rfl rfl H3.out.2.2 (by simp) ?_; intro v2 w4 ho4 hc4 hx4)
  obtain ⟨A4, n4, hv2⟩ := own_slice ho4
  rw [show ([v] ++ [u] : List Int).length = 2 from rfl] at hv2
  subst hv2
  have hge4 : Ge w.heap.size (blkOf (.slice A4 2 n4)) := Ge.ext H2.out.2.2.2 H3.out.2.1.size hx4
  have hng : ¬ blkOf (.slice A2 1 n2) g := fun hh => by have := H2.out.2.2.2 g hh; omega
  have H4 : Aside0 (w4.ownsRow 0 3 1 (.slice A4 2 n4) 2 (nums .i64 [v, u]) ∧ DecAt w0 w4 g d2 ∧ Chg w w4 (One g) ∧ Ge w.heap.size (blkOf (.slice A4 2 n4))) :=
    ⟨ho4, H3.out.1.chg hc4 hng (fun b hb => Nat.le_trans (Nat.le_trans H3.out.1.ge (Nat.le_of_lt hg)) (H2.out.2.2.2 b hb)), H3.out.2.1.trans hc4 (fun b hb => .inr (H2.out.2.2.2 b hb)), hge4⟩
  clear ho4 hc4 hx4 hge4 hng e0 e1
  try go_frame
  rw [rounds_succ]
  go_wp2_with fail
  go_returns
  exact ⟨_, rfl, H4.out⟩

set_option maxHeartbeats 2000000 in
set_option maxRecDepth 100000 in
theorem together81_calls (w0 w : World) (g pb : Nat) (d d1 d2 : D) (k l v u : Int) (h : DecAt w0 w g d) (hp : ReadsAs w0 g 81 k d d1 v) (hq : ReadsAs w0 g 80 l d1 d2 u) (hne : pb ≠ g)
    (hb : w.heap[pb]? = some (.cells #[.func (.func 81) #[] #[], .int .i64 k, .func (.func 80) #[] #[], .int .i64 l] 101 (0, 0))) :
    Calls Try.prog 79 #[.pointer (some ⟨g, 0, none⟩), .slice (some ⟨pb, 0, none⟩) 2 2] w fun r w' => ∃ z, r = .returned z ∧ w'.ownsRow 0 3 1 z 2 (nums .i64 [v, u]) ∧ DecAt w0 w' g d2 ∧ Chg w w' (One g) ∧ Ge w.heap.size (blkOf z) := by
  have HH := Aside0.mk (And.intro h (And.intro hp (And.intro hq hb)))
  have c0 : w.cell? ⟨pb, 0, none⟩ = some (.func (.func 81) #[] #[]) := blk_cell hb 0
  have c1 : w.cell? ⟨pb, 1, none⟩ = some (.int .i64 k) := blk_cell hb 1
  have hlt := blk_lt hb
  have hg := h.lt
  clear h hp hq hb
  go_enter Try.func79, Try.ntmps79
  go_wp2
  refine wp_loop_rounds 3 ?_
  rw [rounds_succ]
  go_wp2_with fail
  refine (HH.out.2.1 _ (HH.out.1.chg ((Chg.refl w No).alloc _) (fun h => h) (fun _ h => h.elim))).mono ?_
  rintro r w1 ⟨rfl, h1, k1⟩
  have H1 : Aside0 (DecAt w0 w1 g d1 ∧ Chg w w1 (One g)) := ⟨h1, ((Chg.refl w (One g)).alloc _).trans k1 (Ext.refl _ _)⟩
  clear h1 k1
  go_wp2_with (at_builtin; refine app1 rfl (.tmp 14) (.tmp 21) 32 3 .i64 8 rfl Try.underlying32 info3' (by omega) (.slice none 0 0) [] v rfl rfl (own_nil _ _ _ _) (by simp) ?_; intro v1 w2 ho2 hc2 hx2)
  obtain ⟨A2, n2, hv1⟩ := own_slice ho2
  rw [show ([] ++ [v] : List Int).length = 1 from rfl] at hv1
  subst hv1
  have hc2' : Chg w w2 (One g) := H1.out.2.trans hc2 (fun k hk => by cases hk)
  have hb2 := hc2'.blk HH.out.2.2.2 hne
  have e0 : w2.cell? ⟨pb, 2, none⟩ = some (.func (.func 80) #[] #[]) := blk_cell hb2 2
  have e1 : w2.cell? ⟨pb, 3, none⟩ = some (.int .i64 l) := blk_cell hb2 3
  have hl2 := blk_lt hb2
  have hge2 : Ge w.heap.size (blkOf (.slice A2 1 n2)) := (Ge.ext (B := w.heap.size) (f := blkOf (.slice none 0 0)) (fun k hk => by cases hk) H1.out.2.size hx2)
  have H2 : Aside0 (DecAt w0 w2 g d1 ∧ Chg w w2 (One g) ∧ w2.ownsRow 0 3 1 (.slice A2 1 n2) 1 (nums .i64 [v]) ∧ Ge w.heap.size (blkOf (.slice A2 1 n2))) :=
    ⟨H1.out.1.chg hc2 (fun hk => by cases hk) (fun k hk => by cases hk), hc2', ho2, hge2⟩
  clear ho2 hc2 hx2 hc2' hb2 hge2 c0 c1
  try go_frame
  rw [rounds_succ]
  go_wp2_with fail
  refine (HH.out.2.2.1 _ (H2.out.1.chg ((Chg.refl w2 No).alloc _) (fun h => h) (fun _ h => h.elim))).mono ?_
  rintro r w3 ⟨rfl, h3, k3⟩
  have k3' := ((Chg.refl w2 (One g)).alloc _).trans k3 (Ext.refl _ _)
  have H3 : Aside0 (DecAt w0 w3 g d2 ∧ Chg w w3 (One g) ∧ w3.ownsRow 0 3 1 (.slice A2 1 n2) 1 (nums .i64 [v])) :=
    ⟨h3, H2.out.2.1.trans k3' (Ext.refl _ _), k3'.own H2.out.2.2.1 (fun b hb hh => by have := H2.out.2.2.2 b hb; have hh' : b = g := hh; omega)⟩
  clear h3 k3 k3'
  go_wp2_with (at_builtin; refine app1 rfl (.tmp 14) (.tmp 21) 32 3 .i64 8 rfl Try.underlying32 info3' (by omega) (.slice A2 1 n2) [v] u rfl rfl H3.out.2.2 (by simp) ?_; intro v2 w4 ho4 hc4 hx4)
  obtain ⟨A4, n4, hv2⟩ := own_slice ho4
  rw [show ([v] ++ [u] : List Int).length = 2 from rfl] at hv2
  subst hv2
  have hge4 : Ge w.heap.size (blkOf (.slice A4 2 n4)) := Ge.ext H2.out.2.2.2 H3.out.2.1.size hx4
  have hng : ¬ blkOf (.slice A2 1 n2) g := fun hh => by have := H2.out.2.2.2 g hh; omega
  have H4 : Aside0 (w4.ownsRow 0 3 1 (.slice A4 2 n4) 2 (nums .i64 [v, u]) ∧ DecAt w0 w4 g d2 ∧ Chg w w4 (One g) ∧ Ge w.heap.size (blkOf (.slice A4 2 n4))) :=
    ⟨ho4, H3.out.1.chg hc4 hng (fun b hb => Nat.le_trans (Nat.le_trans H3.out.1.ge (Nat.le_of_lt hg)) (H2.out.2.2.2 b hb)), H3.out.2.1.trans hc4 (fun b hb => .inr (H2.out.2.2.2 b hb)), hge4⟩
  clear ho4 hc4 hx4 hge4 hng e0 e1
  try go_frame
  rw [rounds_succ]
  go_wp2_with fail
  go_returns
  exact ⟨_, rfl, H4.out⟩

end Go.Proofs.Ytiabenmgbikllaa.M

-- Loudness, and what repeats, are read. Conditions: bounds on the numbers.
namespace Go.Proofs.Ytiabenmgbikllaa.M
set_option linter.unusedVariables false
open Go.RowKit Go.Proofs.YtiabenmgbikllaaW.PrintWords Go.Proofs.YtiabenmgbikllaaW.PrintLast Go.Proofs.YtiabenmgbikllaaW.PrintMore Go.Proofs.Ytiabenmgbikllaa.PAll
attribute [local go_sem] max2_int min2_int max_two min_two max_three min_three max_four min_four

theorem dsym_at (w0 w w1 : World) (g : Nat) (d : D) (i : Nat) (v : Value) (h : DecAt w0 w g d) (hd : DOk d) (hi : i < 7) (ht : TabAt w w1 (icdf i) v) (hk : d.count ≤ 900000000000000000) :
    Calls Try.prog 87 #[.pointer (some ⟨g, 0, none⟩), v] w1 fun r w' => r = .returned (.int .i64 (d.symV (icdf i))) ∧ DecAt w0 w' g (d.sym (icdf i)) ∧ Chg w w' (One g) := by
  obtain ⟨A, c, rfl, hr, hc, hb, hch⟩ := ht
  exact (dsym_calls w0 w1 g d (icdf i) A c (h.chg hch (fun hh => hh) (fun _ hh => hh.elim)) hd (icdf_ok i hi) (icdf_pos i) hr hc (fun ad ha hh => by have := hb ad ha; have := h.lt; omega) hk).mono
    fun r w' ⟨hr, h1, h2⟩ => ⟨hr, h1, (hch.mono (fun _ hh => hh.elim)).trans h2 (Ext.refl _ _)⟩

set_option maxHeartbeats 1000000 in
set_option maxRecDepth 100000 in
theorem symbol_calls (w0 : World) (g : Nat) (d : D) (i : Nat) (hd : DOk d) (hi : i < 7) (hk : d.count ≤ 900000000000000000) : ReadsAs w0 g 80 i d (d.sym (icdf i)) (d.symV (icdf i)) := by
  intro w h
  have HH := Aside0.mk (And.intro h hd)
  clear h hd
  go_enter Try.func80, Try.ntmps80
  go_wp2_with (first
    | (go_at_call 88; refine (icdf_calls _ i hi).mono ?_; rintro r w1 ⟨v1, rfl, h1⟩; have H1 := Aside0.mk h1; clear h1)
    | (go_at_call 87; refine (dsym_at w0 w w1 g d i v1 HH.out.1 HH.out.2 hi H1.out hk).mono ?_; rintro r w2 ⟨rfl, h2⟩; have H2 := Aside0.mk h2; clear h2))
  go_returns
  exact ⟨rfl, H2.out⟩
theorem small_reads (w0 : World) (g : Nat) (d : D) (ft : Int) (hd : DOk d) (f0 : 2 ≤ ft) (f1 : ft ≤ 256) (hk : d.count ≤ 900000000000000000) : ReadsAs w0 g 81 ft d (d.small ft) (d.choose ft) :=
  fun w h => dsmall_calls w0 w g d ft h hd f0 f1 hk

theorem own_two {w : World} {e : TypeId} {n : Nat} {z : Value} {xs : List Value} (h : w.ownsRow 0 e 1 z (n + 1) xs) : ∃ b cap, z = .slice (some ⟨b, 0, none⟩) (n + 1) cap := by
  rcases h.2 with ⟨_, h0⟩ | ⟨b, cap, _, hv, _⟩
  · omega
  · exact ⟨b, cap, hv⟩
/-- A loudness is read. -/
def D.firstV (d : D) : Int := 8 * d.symV (icdf 1) + (d.sym (icdf 1)).choose 8
def D.firstD (d : D) : D := (d.sym (icdf 1)).small 8
theorem small_ok (d : D) (h : DOk d) (ft : Int) (f0 : 1 ≤ ft) (f1 : ft ≤ 32768) (hk : d.count ≤ 900000000000000000) : DOk (d.small ft) ∧ (d.small ft).count ≤ d.count + 24 ∧ (d.small ft).b = d.b ∧ 0 ≤ d.choose ft ∧ d.choose ft < ft := by
  have hp := small_place d h ft f0 f1
  obtain ⟨a, b, c⟩ := take_ok d h _ _ ft hp hk
  have := hp.a0
  have := hp.a1
  have := hp.a2
  exact ⟨a, b, c, by omega, by omega⟩

set_option maxHeartbeats 1000000 in
set_option maxRecDepth 100000 in
theorem rfirst_calls (w0 w : World) (g : Nat) (d : D) (h : DecAt w0 w g d) (hd : DOk d) (hk : d.count ≤ 800000000000000000) :
    Calls Try.prog 26 #[.pointer (some ⟨g, 0, none⟩)] w fun r w' => r = .returned (.int .i64 d.firstV) ∧ DecAt w0 w' g d.firstD ∧ Chg w w' (One g) := by
  obtain ⟨s1, s2, s3, s4, s5⟩ := sym_ok d hd (icdf 1) (icdf_ok 1 (by omega)) (icdf_pos 1) (by omega)
  obtain ⟨t1, t2, t3, t4, t5⟩ := small_ok (d.sym (icdf 1)) s1 8 (by omega) (by omega) (by omega)
  have s5' : d.symV (icdf 1) < 8 := s5
  have HH := Aside0.mk (And.intro h (And.intro (symbol_calls w0 g d 1 hd (by omega) (by omega)) (small_reads w0 g _ 8 s1 (by omega) (by omega) (by omega))))
  have hg := h.lt
  clear h hd s1 t1 s5
  go_enter Try.func26, Try.ntmps26
  go_wp2_with fail
  refine (together80_calls w0 _ g w.heap.size d _ _ 1 8 _ _ (HH.out.1.chg ((Chg.refl w No).alloc _) (fun h => h) (fun _ h => h.elim)) HH.out.2.1 HH.out.2.2 (by omega) (heap_alloc_new w _)).mono ?_
  rintro r w1 ⟨z, rfl, h1, h2, h3, h4⟩
  obtain ⟨b, cap, rfl⟩ := own_two h1
  have q0 := (own_at h1 0 (by omega) (by omega)).1
  have q1 := (own_at h1 1 (by omega) (by omega)).1
  have e0 : w1.cell? ⟨b, 0, none⟩ = some (.int .i64 (d.symV (icdf 1))) := q0
  have e1 : w1.cell? ⟨b, 1, none⟩ = some (.int .i64 ((d.sym (icdf 1)).choose 8)) := q1
  clear q0 q1
  have H2 := Aside0.mk (And.intro h2 (((Chg.refl w (One g)).alloc _).trans h3 (Ext.refl _ _)))
  clear h1 h2 h3 h4
  go_wp2_with fail
  have a1 : IntKind.i64.wrap (8 * d.symV (icdf 1)) = 8 * d.symV (icdf 1) := IntWalk.i64_in _ (by omega)
  have a2 : IntKind.i64.wrap (8 * d.symV (icdf 1) + (d.sym (icdf 1)).choose 8) = 8 * d.symV (icdf 1) + (d.sym (icdf 1)).choose 8 := IntWalk.i64_in _ (by omega)
  go_region
  all_goals
    go_wp2_with fail
    go_returns
    exact ⟨rfl, H2.out.1.chg ((Chg.refl w1 No).drew) (fun h => h) (fun _ h => h.elim), H2.out.2.drew⟩

/-- A loudness' change is read. -/
def D.nextV' (d : D) (was : Int) : Int := gcl (gcl was + d.symV (icdf 2) - 8)
def D.nextD (d : D) : D := d.sym (icdf 2)
set_option maxHeartbeats 1000000 in
set_option maxRecDepth 100000 in
theorem rnext_calls (w0 w : World) (g : Nat) (d : D) (was : Int) (h : DecAt w0 w g d) (hd : DOk d) (hk : d.count ≤ 800000000000000000) :
    Calls Try.prog 28 #[.pointer (some ⟨g, 0, none⟩), .int .i64 was] w fun r w' => r = .returned (.int .i64 (d.nextV' was)) ∧ DecAt w0 w' g d.nextD ∧ Chg w w' (One g) := by
  obtain ⟨s1, s2, s3, s4, s5⟩ := sym_ok d hd (icdf 2) (icdf_ok 2 (by omega)) (icdf_pos 2) (by omega)
  have s5' : d.symV (icdf 2) < 17 := s5
  have HH := Aside0.mk (And.intro h (symbol_calls w0 g d 2 hd (by omega) (by omega)))
  obtain ⟨y0, y1⟩ := gcl_range was
  clear h hd s1 s5
  go_enter Try.func28, Try.ntmps28
  go_wp2_with fail
  refine (gclamp_calls w was).mono ?_
  rintro r w1 ⟨rfl, h1⟩
  have H1 := Aside0.mk h1
  clear h1
  go_wp2_with fail
  refine (HH.out.2 w1 (HH.out.1.chg H1.out (fun h => h) (fun _ h => h.elim))).mono ?_
  rintro r w2 ⟨rfl, h2, h2'⟩
  have H2 := Aside0.mk (And.intro h2 h2')
  clear h2 h2'
  go_wp2_with fail
  refine (gclamp_calls w2 _).mono ?_
  rintro r w3 ⟨rfl, h3⟩
  have H3 : Aside0 (DecAt w0 w3 g d.nextD ∧ Chg w w3 (One g)) := ⟨H2.out.1.chg h3 (fun h => h) (fun _ h => h.elim), ((H1.out.mono (fun _ h => h.elim)).trans H2.out.2 (Ext.refl _ _)).trans h3 (fun _ h => h.elim)⟩
  clear h3
  go_wp2_with fail
  go_returns
  exact ⟨rfl, H3.out⟩

theorem lags_calls (w : World) : Calls Try.prog 30 #[.int .i64 8000] w fun r w' => r = .returned (.tuple #[.int .i64 16, .int .i64 144]) ∧ ∃ n, w' = w.drewN n :=
  (gain_Lags.calls 8000 16 144 w (by decide +kernel)).mono fun r w' ⟨h1, h2⟩ => ⟨h1, h2.out⟩

/-- What repeats is read (at the narrow rate). -/
def D.ltpD (d : D) : D := (d.small 129).sym (icdf 6)
def D.ltpLag (d : D) : Int := 16 + d.choose 129
def D.ltpTaps (d : D) : Int := (d.small 129).symV (icdf 6)
set_option maxHeartbeats 1000000 in
set_option maxRecDepth 100000 in
theorem rltp_calls (w0 w : World) (g : Nat) (d : D) (h : DecAt w0 w g d) (hd : DOk d) (hk : d.count ≤ 800000000000000000) :
    Calls Try.prog 31 #[.pointer (some ⟨g, 0, none⟩), .int .i64 8000] w fun r w' => r = .returned (.agg #[.int .i64 d.ltpLag, .int .i64 d.ltpTaps]) ∧ DecAt w0 w' g d.ltpD ∧ Chg w w' (One g) := by
  obtain ⟨t1, t2, t3, t4, t5⟩ := small_ok d hd 129 (by omega) (by omega) (by omega)
  obtain ⟨s1, s2, s3, s4, s5⟩ := sym_ok (d.small 129) t1 (icdf 6) (icdf_ok 6 (by omega)) (icdf_pos 6) (by omega)
  have s5' : (d.small 129).symV (icdf 6) < 8 := s5
  have HH := Aside0.mk (And.intro h (And.intro (small_reads w0 g d 129 hd (by omega) (by omega) (by omega)) (symbol_calls w0 g (d.small 129) 6 t1 (by omega) (by omega))))
  have hg := h.lt
  clear h hd s1 t1 s5
  go_enter Try.func31, Try.ntmps31
  go_wp2_with (go_at_call 30; refine (lags_calls _).mono ?_; rintro r w1 ⟨rfl, n1, rfl⟩)
  have hnew : (((w.alloc (.cells #[.int .i64 0, .int .i64 0] 39)).drewN n1).alloc (.cells #[.func (.func 81) #[] #[], .int .i64 129, .func (.func 80) #[] #[], .int .i64 6] 101)).heap[w.heap.size + 1]? = some (.cells #[.func (.func 81) #[] #[], .int .i64 129, .func (.func 80) #[] #[], .int .i64 6] 101 (0, 0)) := by
    have hh := heap_alloc_new ((w.alloc (.cells #[.int .i64 0, .int .i64 0] 39)).drewN n1) (.cells #[.func (.func 81) #[] #[], .int .i64 129, .func (.func 80) #[] #[], .int .i64 6] 101)
    rw [show ((w.alloc (.cells #[.int .i64 0, .int .i64 0] 39)).drewN n1).heap.size = w.heap.size + 1 from by simp] at hh
    exact hh
  have HNEW := Aside0.mk hnew
  clear hnew
  refine (together81_calls w0 _ g _ d _ _ 129 6 _ _ (HH.out.1.chg ((((Chg.refl w No).alloc _).drewN n1).alloc _) (fun h => h) (fun _ h => h.elim)) HH.out.2.1 HH.out.2.2 (by omega) HNEW.out).mono ?_
  rintro r w1 ⟨z, rfl, h1, h2, h3, h4⟩
  obtain ⟨b, cap, rfl⟩ := own_two h1
  have q0 := (own_at h1 0 (by omega) (by omega)).1
  have q1 := (own_at h1 1 (by omega) (by omega)).1
  have e0 : w1.cell? ⟨b, 0, none⟩ = some (.int .i64 (d.choose 129)) := q0
  have e1 : w1.cell? ⟨b, 1, none⟩ = some (.int .i64 ((d.small 129).symV (icdf 6))) := q1
  clear q0 q1
  have HX := Aside0.mk (And.intro h2 (((((Chg.refl w (One g)).alloc _).drewN n1).alloc _).trans h3 (Ext.refl _ _)))
  have hr : w1.heap[w.heap.size]? = some (.cells #[.int .i64 0, .int .i64 0] 39 (0, 0)) :=
    (h3.block w.heap.size (by simp; omega) (fun hh => by have hh' : w.heap.size = g := hh; omega)).trans (blk_alloc (blk_drewN (heap_alloc_new w _) n1) _)
  have r0 : w1.cell? ⟨w.heap.size, 0, none⟩ = some (.int .i64 0) := blk_cell hr 0
  have r1 : w1.cell? ⟨w.heap.size, 1, none⟩ = some (.int .i64 0) := blk_cell hr 1
  have z0 := blk_frozen hr 0
  have z1 := blk_frozen hr 1
  have hbn : b ≠ w.heap.size := fun hh => by
    have := own_ne h1 hr (by decide)
    exact this (by rw [hh]; rfl)
  have HRR := Aside0.mk hr
  clear h2 h3 h4 h1 hr
  have a2 : IntKind.i64.wrap (16 + d.choose 129) = 16 + d.choose 129 := IntWalk.i64_in _ (by omega)
  go_wp2_with fail
  go_region
  all_goals
    go_wp2_with fail
    have hfin := blk_put (blk_put HRR.out 0 (.int .i64 (16 + d.choose 129)) rfl) 1 (.int .i64 ((d.small 129).symV (icdf 6))) rfl
    have f0 := blk_cell hfin 0
    have f1 := blk_cell hfin 1
    refine bodyPost_ret (v := .agg #[.int .i64 d.ltpLag, .int .i64 d.ltpTaps]) ?_ rfl ⟨rfl, ?_⟩
    · clear r0 r1 z0 z1 e0 e1
      simp [results, Try.results31, go_sem, D.ltpLag, D.ltpTaps, f0, f1]
    · have hge := HH.out.1.ge
      have hgn : ¬ One w.heap.size g := fun hh => by have hh' : g = w.heap.size := hh; omega
      have hgo : Ge w0.heap.size (One w.heap.size) := fun b' hb' => by have hh' : b' = w.heap.size := hb'; omega
      have kc : Chg w1 (((w1.setCell ⟨w.heap.size, 0, none⟩ (.int .i64 (16 + d.choose 129))).setCell ⟨w.heap.size, 1, none⟩ (.int .i64 ((d.small 129).symV (icdf 6)))).drew) (One w.heap.size) := by
        have k1 : Chg w1 (w1.setCell ⟨w.heap.size, 0, none⟩ (.int .i64 (16 + d.choose 129))) (One w.heap.size) := Chg.setCell (p := ⟨w.heap.size, 0, none⟩) (Chg.refl w1 (One w.heap.size)) (Or.inl (show One w.heap.size w.heap.size from rfl)) _
        exact (Chg.setCell (p := ⟨w.heap.size, 1, none⟩) k1 (Or.inl (show One w.heap.size w.heap.size from rfl)) _).drew
      refine ⟨HX.out.1.chg kc hgn hgo, ?_⟩
      refine Chg.drew ?_
      refine Chg.setCell ?_ (.inr (Nat.le_refl _)) _
      refine Chg.setCell ?_ (.inr (Nat.le_refl _)) _
      exact HX.out.2
end Go.Proofs.Ytiabenmgbikllaa.M

-- Whether a slice of bytes has one that is not nought: slices.ContainsFunc at the writer's own test. Conditions: the slice's length.
namespace Go.Proofs.Ytiabenmgbikllaa.M
open Go.RowKit Go.Proofs.YtiabenmgbikllaaW.PrintWords Go.Proofs.YtiabenmgbikllaaW.PrintLast Go.Proofs.YtiabenmgbikllaaW.PrintMore
attribute [local go_sem] max2_int min2_int max_two min_two max_three min_three max_four min_four

theorem nz_calls (w : World) (x : Int) : Calls Try.prog 97 #[.int .u8 x] w fun r w' => r = .returned (.bool (x != 0)) ∧ w = w' := by
  go_enter Try.func97, Try.ntmps97
  go_wp2
  go_returns
  exact ⟨rfl, rfl⟩

/-- One of the numbers is not nought. -/
def anyNZ (xs : List Int) : Bool := xs.any (fun x => x != 0)
def SomeNZ (xs : List Int) (w : World) (e : Ending) (w' : World) : Prop := ∃ r : Int, e = .returned (.int .i64 r) ∧ decide (0 ≤ r) = anyNZ xs ∧ w = w'

theorem anyNZ_hit (xs : List Int) (k : Nat) (h : k < xs.length) (hx : rd xs k ≠ 0) : anyNZ xs = true := by
  unfold anyNZ
  rw [List.any_eq_true]
  refine ⟨xs[k], List.getElem_mem h, ?_⟩
  have : rd xs k = xs[k] := by simp [rd, h]
  rw [this] at hx
  simpa using hx
theorem anyNZ_none (xs : List Int) (h : ∀ k : Nat, k < xs.length → rd xs k = 0) : anyNZ xs = false := by
  unfold anyNZ
  rw [List.any_eq_false]
  intro x hx
  obtain ⟨k, hk, rfl⟩ := List.getElem_of_mem hx
  have := h k hk
  have e : rd xs k = xs[k] := by simp [rd, hk]
  rw [e] at this
  simp [this]

set_option maxHeartbeats 1000000 in
set_option maxRecDepth 100000 in
theorem indexFunc_calls (w : World) (A : Option Addr) (c : Nat) (xs : List Int) (hr : ReadsInt w .u8 A xs.length xs) (hn : xs.length ≤ 140737488355328) :
    Calls Try.prog 133 #[.slice A xs.length c, .func (.func 97) #[] #[]] w (SomeNZ xs w) := by
  have HR := Aside0.mk hr
  clear hr
  go_enter Try.func133, Try.ntmps133
  go_wp2
  go_loopg [5, 8] xs.length (fun k u5 u8 wr => ∃ i : Nat, wr = w ∧ u8 = .int .i64 i ∧ k + i = xs.length ∧ Aside0 (∀ j : Nat, j < i → rd xs j = 0))
  case atStart => exact ⟨0, rfl, rfl, by omega, ⟨fun j hj => absurd hj (by omega)⟩⟩
  case round =>
    obtain ⟨i, rfl, rfl, hk, HZ⟩ := hrel
    by_cases hi : i < xs.length
    · obtain ⟨ad, rfl, hx⟩ := HR.out.at_ (i : Int) (by omega) (by omega)
      simp only [Int.toNat_natCast] at hx
      by_cases hz : rd xs i = 0
      · have hzb : (rd xs i != 0) = false := by simp [hz]
        have HX := Aside0.mk hz
        clear hz
        go_wp2_with (go_at_call 97; refine (nz_calls _ _).mono ?_; rintro r w1 ⟨rfl, rfl⟩)
        go_roundg (gk - 1)
        case measure => omega
        case rel => exact ⟨i + 1, rfl, by go_num, by omega, ⟨fun j hj => by rcases Nat.lt_succ_iff_lt_or_eq.1 hj with h | h; exact HZ.out j h; rw [h]; exact HX.out⟩⟩
      · have hzb : (rd xs i != 0) = true := by simp [hz]
        have HX := Aside0.mk (anyNZ_hit xs i hi hz)
        clear hz
        go_wp2_with (go_at_call 97; refine (nz_calls _ _).mono ?_; rintro r w1 ⟨rfl, rfl⟩)
        go_returns
        exact ⟨i, rfl, by rw [HX.out]; simp, rfl⟩
    · have HX := Aside0.mk (anyNZ_none xs (fun k hk => HZ.out k (by omega)))
      clear HZ
      go_wp2
      go_returns
      exact ⟨-1, rfl, by rw [HX.out]; simp, rfl⟩

set_option maxHeartbeats 1000000 in
set_option maxRecDepth 100000 in
theorem contains_calls (w : World) (A : Option Addr) (c : Nat) (xs : List Int) (hr : ReadsInt w .u8 A xs.length xs) (hn : xs.length ≤ 140737488355328) :
    Calls Try.prog 96 #[.slice A xs.length c, .func (.func 97) #[] #[]] w fun r w' => r = .returned (.bool (anyNZ xs)) ∧ w = w' := by
  have HR := Aside0.mk hr
  clear hr
  go_enter Try.func96, Try.ntmps96
  go_wp2_with fail
  refine (indexFunc_calls w _ _ xs HR.out hn).mono ?_
  rintro r w1 ⟨r, rfl, hb, rfl⟩
  have HB := Aside0.mk hb
  clear hb
  go_wp2
  go_returns
  refine ⟨?_, rfl⟩
  rw [← HB.out]
  rfl
end Go.Proofs.Ytiabenmgbikllaa.M

-- The built-in copy into a slice that the call owns, as one operation of a walk. Conditions: none.
namespace Go.Proofs.Ytiabenmgbikllaa.M
open Go.RowKit Go.Proofs.YtiabenmgbikllaaW.PrintWords Go.Proofs.YtiabenmgbikllaaW.PrintLast Go.Proofs.YtiabenmgbikllaaW.PrintMore

section
variable {P : Program} {ops : Array Oper} {rest : List Oper} {o : Oper} {a : Act} {Q : Exit → Act → World → Prop}
theorem Chg.setRow {w : World} {g : Nat} (cs : Array Value) : Chg w (w.setRow g cs) (fun b => b = g) :=
  ⟨rfl, rfl, rfl, by simp [World.setRow], fun k _ hn => setRow_other w g k cs hn⟩
theorem copyRow {W : World} (hgd : o.guard = none) (d s : Operand) (T e : TypeId) (k : IntKind) (ho : o.op = .call { callee := .builtin .copy, args := #[d, s], argTypes := #[T, T] })
    (hu : P.underlying T = some (.slice e)) (hsz : (P.info? e).map (·.size) = some 1) (g n cap : Nat) (xs ys : List Int) (A : Option Addr) (c : Nat)
    (hd : a.eval d = .slice (some ⟨g, 0, none⟩) n cap) (hs : a.eval s = .slice A ys.length c) (HO : W.ownsRow 0 e 1 (.slice (some ⟨g, 0, none⟩) n cap) n (nums k xs)) (HR : ReadsInt W k A ys.length ys)
    (h : ∀ w1, w1.ownsRow 0 e 1 (.slice (some ⟨g, 0, none⟩) n cap) n (nums k (ys.take n ++ xs.drop ys.length)) → Chg W w1 (fun b => b = g) → wpList P ops Q rest (a.put o.dst (goInt (Nat.min ys.length n))) w1) :
    wpList P ops Q (o :: rest) a W := by
  have hxl : xs.length = n := by have := HO.1; simpa [nums] using this
  by_cases h0 : Nat.min ys.length n = 0
  · have hh := h W (by
      have : ys.take n ++ xs.drop ys.length = xs := by
        by_cases hy : ys.length = 0
        · rw [List.eq_nil_of_length_eq_zero hy]; simp
        · have hn : n = 0 := by
            have h1 : min ys.length n = 0 := h0
            omega
          rw [hn] at hxl
          rw [List.eq_nil_of_length_eq_zero hxl, hn]; simp
      rw [this]; exact HO) (Chg.refl W _)
    rw [h0] at hh
    exact wpList_copy_nothing hgd d s T T ho e hu hsz _ _ n cap ys.length c hd hs h0 hh
  · have h1 : 0 < min ys.length n := Nat.pos_of_ne_zero h0
    obtain ⟨ad, rfl, hx⟩ := HR.2.2 (by omega)
    rcases HO.2 with ⟨hv, _⟩ | ⟨g', cap', cur, hv, hb, hg, hnc, hcm, hcs, htake⟩
    · cases hv
    · injection hv with e1 e2 e3
      injection e1 with e1
      injection e1 with e1 _ _
      subst e1
      subst e3
      have hlen : (nums k (ys.take n)).length = Nat.min ys.length n := by
        rw [nums_length, List.length_take]; exact Nat.min_comm _ _
      have hcl : cur.size = cap := by omega
      have hfit : 0 + (nums k (ys.take n)).length ≤ cur.size := by
        rw [hlen]
        have : Nat.min ys.length n ≤ n := Nat.min_le_right _ _
        omega
      have hh := h (W.setRow g (cur.toList.take 0 ++ (nums k (ys.take n) ++ cur.toList.drop (0 + (nums k (ys.take n)).length))).toArray) (by
        refine ⟨?_, .inr ⟨g, cap, (cur.toList.take 0 ++ (nums k (ys.take n) ++ cur.toList.drop (0 + (nums k (ys.take n)).length))).toArray, rfl, hb, setRow_heap W g _ _ e _ hg, hnc, hcm, ?_, ?_⟩⟩
        · simp [nums]; omega
        · simp [nums]; omega
        · have ht : cur.toList.take n = nums k xs := by simpa using htake
          simp only [List.take_zero, List.nil_append, Nat.mul_one, Nat.zero_add, nums_append]
          rw [List.take_append, hlen]
          have hm : Nat.min ys.length n = min ys.length n := rfl
          rw [hm]
          rw [List.take_of_length_le (by rw [hlen]; exact Nat.min_le_right _ _), ← List.drop_take]
          rw [ht]
          congr 1
          simp only [nums, List.map_drop]
          by_cases hyn : ys.length ≤ n
          · rw [Nat.min_eq_left hyn]
          · rw [List.drop_eq_nil_of_le (by simp; omega), List.drop_eq_nil_of_le (by simp; omega)]) (Chg.setRow _)
      refine wpList_copy_own hgd d s T T ho e hu hsz g 0 n cap ad ys.length c hd hs cur e hg (nums k (ys.take n)) hlen (fun j v hj => ?_) hfit (fun u hu => by obtain ⟨x, _, rfl⟩ := List.mem_map.1 hu; rfl) (by rw [← hlen] at hh; exact hh)
      have hj' : j < min ys.length n := by have := (List.getElem?_eq_some_iff.1 hj).1; rw [hlen] at this; exact this
      rw [hx j (by omega), ← hj]
      have a1 : j < ys.length := by omega
      have a2 : j < n := by omega
      simp [nums, List.getD, a1, a2]
end
end Go.Proofs.Ytiabenmgbikllaa.M

-- Two numbers of many bytes are held against each other, as the print tells it. Conditions: as many bytes.
namespace Go.Proofs.Ytiabenmgbikllaa.M
open Go.RowKit Go.Proofs.YtiabenmgbikllaaW.PrintWords Go.Proofs.YtiabenmgbikllaaW.PrintLast Go.Proofs.YtiabenmgbikllaaW.PrintMore Go.Proofs.Ytiabenmgbikllaa.PAll

/-- Two numbers of many bytes: -1, 0, 1. -/
def cmpL : List Int → List Int → Int
  | [], [] => 0
  | [], _ :: _ => -1
  | _ :: _, [] => 1
  | x :: xs, y :: ys => if x < y then -1 else if x > y then 1 else cmpL xs ys
theorem cmp1 (a b : Int) : cmp_Compare_byte.f a b = some (if a < b then -1 else if a > b then 1 else 0) := by
  simp only [cmp_Compare_byte.f, cmp_isNaN_byte.f, Option.bind_some, bne_self_eq_false, Bool.false_eq_true, if_false]
  split
  · rfl
  · split <;> rfl
theorem cmpL_run (l0 l1 : List Int) (hl : l0.length = l1.length) (hb : l0.length ≤ 1099511627776) (d : Nat) : ∀ (k i : Nat), i + d = l0.length → d < k →
    slices_Compare_byte_byte.l0 k l0 l1 l0 (l0.length : Int) (i : Int) = some (cmpL (l0.drop i) (l1.drop i)) := by
  induction d with
  | zero =>
    intro k i hi hk
    obtain ⟨k, rfl⟩ : ∃ m, k = m + 1 := ⟨k - 1, by omega⟩
    simp only [slices_Compare_byte_byte.l0]
    rw [if_neg (by omega), if_neg (by omega), List.drop_eq_nil_of_le (by omega), List.drop_eq_nil_of_le (by omega)]
    rfl
  | succ d ih =>
    intro k i hi hk
    obtain ⟨k, rfl⟩ : ∃ m, k = m + 1 := ⟨k - 1, by omega⟩
    have h0 : i < l0.length := by omega
    have h1 : i < l1.length := by omega
    simp only [slices_Compare_byte_byte.l0]
    rw [if_pos (by omega), if_pos (by omega), if_pos (by omega), if_neg (by omega), if_pos (by omega), cmp1]
    simp only [Option.bind_some]
    rw [List.drop_eq_getElem_cons h0, List.drop_eq_getElem_cons h1]
    have e0 : rd l0 i = l0[i] := by simp [rd, h0]
    have e1 : rd l1 i = l1[i] := by simp [rd, h1]
    rw [e0, e1]
    simp only [cmpL]
    by_cases ha : l0[i] < l1[i]
    · rw [if_pos ha, if_neg (by decide), if_pos ha]
    · rw [if_neg ha]
      by_cases hb' : l0[i] > l1[i]
      · rw [if_pos hb', if_neg (by decide), if_neg ha, if_pos hb']
      · rw [if_neg hb', if_pos rfl, if_neg ha, if_neg hb']
        have := ih k (i + 1) (by omega) (by omega)
        rw [show wrap64 ((i : Int) + 1) = ((i + 1 : Nat) : Int) from by unfold wrap64; omega]
        exact this
theorem cmpL_f (l0 l1 : List Int) (hl : l0.length = l1.length) (hb : l0.length ≤ 1099511627776) : slices_Compare_byte_byte.f (l0.length + 1) l0 l1 = some (cmpL l0 l1) := by
  have := cmpL_run l0 l1 hl hb l0.length (l0.length + 1) 0 (by omega) (by omega)
  simpa [slices_Compare_byte_byte.f] using this
/-- slices.Compare of two slices that the call owns. -/
theorem compare_calls (w : World) (n : Nat) (A0 A1 : Option Addr) (c0 c1 : Nat) (l0 l1 : List Int) (h0 : w.ownsRow 0 5 1 (.slice A0 n c0) n (nums .u8 l0)) (h1 : w.ownsRow 0 5 1 (.slice A1 n c1) n (nums .u8 l1)) (hb : n ≤ 1099511627776) :
    Calls Try.prog 99 #[.slice A0 n c0, .slice A1 n c1] w fun r w' => r = .returned (.int .i64 (cmpL l0 l1)) ∧ Drawn0 w w' := by
  have e0 : l0.length = n := by have := h0.1; simpa [nums] using this
  have e1 : l1.length = n := by have := h1.1; simpa [nums] using this
  have := slices_Compare_byte_byte.calls (l0.length + 1) A0 c0 l0 A1 c1 l1 (cmpL l0 l1) w (Kd.C_of_reads (d := 0) (readsInt_of.1 (by rw [e0]; exact own_reads' h0))) (by rw [e0]; exact own_le h0)
    (Kd.C_of_reads (d := 0) (readsInt_of.1 (by rw [e1]; exact own_reads' h1))) (by rw [e1]; exact own_le h1) (cmpL_f l0 l1 (by omega) (by omega))
  rwa [e0, e1] at this
end Go.Proofs.Ytiabenmgbikllaa.M

-- The writer of bits: the bytes out of which all can be read (Done). Conditions: bounds on the numbers; what is told fits.
namespace Go.Proofs.Ytiabenmgbikllaa.M
open Go.RowKit Go.Proofs.YtiabenmgbikllaaW.PrintWords Go.Proofs.YtiabenmgbikllaaW.PrintLast Go.Proofs.YtiabenmgbikllaaW.PrintMore Go.Proofs.Ytiabenmgbikllaa.PAll
attribute [local go_sem] max2_int min2_int max_two min_two max_three min_three max_four min_four

/-- The code's lower end, as bytes. -/
def E.all (e : E) : List Int := e.told ++ [e.val / 8388608 % 256, e.val / 32768 % 256, e.val / 128 % 256, e.val * 2 % 256]
/-- The bit i of the end is laid into the bytes. -/
def layBit (raw : List Int) (n : Nat) (out : List Int) (i : Nat) : List Int :=
  out.set (n - 1 - i / 8) (bits .or .u8 (bits .andNot .u8 (rd out ((n - 1 - i / 8 : Nat) : Int)) (2 ^ (i % 8))) (bits .and .u8 (rd raw ((i / 8 : Nat) : Int)) (2 ^ (i % 8))))
def layBits (raw : List Int) (n : Nat) (out : List Int) : Nat → List Int
  | 0 => out
  | i + 1 => layBit raw n (layBits raw n out i) i
def E.out0 (e : E) (n : Nat) : List Int := e.all.take n ++ (List.replicate n 0).drop e.all.length
def E.out1 (e : E) (n : Nat) : List Int := if n < e.all.length ∧ anyNZ (e.all.drop n) = true then increase (e.out0 n) 0 else e.out0 n
def E.out2 (e : E) (n : Nat) : List Int := layBits e.raw n (e.out1 n) e.rawBits.toNat
def E.done (e : E) (n : Nat) : List Int := if cmpL (e.out2 n) (e.out1 n) < 0 then increase (e.out2 n) e.rawBits.toNat else e.out2 n
structure EOkR (e : E) : Prop where
  b0 : 0 ≤ e.rawBits
  len : (e.raw.length : Int) = (e.rawBits + 7) / 8
  cnt : e.count = 33 + 8 * e.told.length + e.rawBits
  tb : Bytes e.told
  rb : Bytes e.raw

theorem bitLenAux_lt : ∀ n x k, x < 2 ^ k → Lib.bitLenAux n x ≤ k
  | 0, _, _, _ => Nat.zero_le _
  | n + 1, x, 0, h => by
    have : x = 0 := by simpa using h
    simp [Lib.bitLenAux, this]
  | n + 1, x, k + 1, h => by
    have := bitLenAux_lt n (x / 2) k (by rw [Nat.pow_succ] at h; omega)
    simp only [Lib.bitLenAux]
    split <;> omega
theorem bitLen_le32 (x : Nat) (h : x ≤ 2147483648) : Lib.bitLen x ≤ 32 := bitLenAux_lt 64 x 32 (by omega)
theorem Bytes.app {a b : List Int} (h : Bytes a) (k : Bytes b) : Bytes (a ++ b) := fun x hx => by
  rcases List.mem_append.1 hx with hx | hx
  · exact h x hx
  · exact k x hx
theorem Bytes.rep (n : Nat) : Bytes (List.replicate n 0) := fun x hx => by rw [List.eq_of_mem_replicate hx]; omega
theorem Bytes.take {a : List Int} (h : Bytes a) (n : Nat) : Bytes (a.take n) := fun x hx => h x (List.mem_of_mem_take hx)
theorem Bytes.drop {a : List Int} (h : Bytes a) (n : Nat) : Bytes (a.drop n) := fun x hx => h x (List.mem_of_mem_drop hx)
theorem E.all_bytes (e : E) (h : EOkR e) : Bytes e.all := h.tb.app (fun x hx => by
  simp at hx
  omega)
theorem E.out0_bytes (e : E) (n : Nat) (h : EOkR e) : Bytes (e.out0 n) := ((e.all_bytes h).take n).app ((Bytes.rep n).drop _)

theorem wrap_u8_range (x : Int) : 0 ≤ IntKind.u8.wrap x ∧ IntKind.u8.wrap x < 256 := by rw [IntKind.wrap_u8]; omega
theorem bits_u8_range (o : BinOp) (a b : Int) : 0 ≤ bits o .u8 a b ∧ bits o .u8 a b < 256 := by
  unfold bits
  split <;> exact wrap_u8_range _
theorem layBits_bytes (raw : List Int) (n : Nat) (out : List Int) (h : Bytes out) : ∀ i, Bytes (layBits raw n out i)
  | 0 => h
  | i + 1 => (layBits_bytes raw n out h i).set _ _ (bits_u8_range _ _ _)
theorem increase_bytes (l : List Int) (p : Nat) (h : Bytes l) : Bytes (increase l p) := by
  unfold increase
  generalize (2 : Int) ^ (p % 8) = c
  generalize l.length - p / 8 = k
  induction k generalizing l c with
  | zero => exact h
  | succ k ih =>
    unfold incN
    split
    · exact ih _ (h.set _ _ (by omega)) _
    · exact h
theorem E.out1_bytes (e : E) (n : Nat) (h : EOkR e) : Bytes (e.out1 n) := by
  unfold E.out1
  split
  · exact increase_bytes _ _ (e.out0_bytes n h)
  · exact e.out0_bytes n h
theorem E.out2_bytes (e : E) (n : Nat) (h : EOkR e) : Bytes (e.out2 n) := layBits_bytes _ _ _ (e.out1_bytes n h) _

set_option maxHeartbeats 2000000 in
set_option maxRecDepth 100000 in
theorem edone_calls (w : World) (f : Nat → Prop) (g : Nat) (e : E) (n : Nat) (h : EncAt w f g e) (hk : EOk e) (hr : EOkR e) (hn : n ≤ 1275) (hfit : e.tell ≤ 8 * n) :
    Calls Try.prog 44 #[.pointer (some ⟨g, 0, none⟩), .int .i64 n] w fun r w' => ∃ v, r = .returned (.tuple #[v, .int .i64 0]) ∧ w'.ownsRow 0 5 1 v n (nums .u8 (e.done n)) ∧ Chg w w' No ∧ Ge w.heap.size (blkOf v) := by
  have HK := Aside0.mk (And.intro h (And.intro hk hr))
  clear h hk hr
  go_enter Try.func44, Try.ntmps44
  go_upto_region 5 with (go_at_call 41; refine (etell_calls _ f g e HK.out.1 HK.out.2.1).mono ?_; rintro r w1 ⟨rfl, nd, rfl⟩)
  obtain ⟨⟨vt, vr, hE⟩, hok, hokr⟩ := HK.out
  have CE : Aside0 (∀ W, Chg w W No → EAt W f g e vt vr) := ⟨fun W hW => hE.chg hW (fun _ _ hh => hh)⟩
  go_cut [6] (fun s6 wx => Aside0 (wx.ownsRow 0 5 1 s6 e.all.length (nums .u8 e.all) ∧ Chg w wx No ∧ Ge w.heap.size (blkOf s6)))
  case first =>
    have CR : Aside0 (∀ W, Chg w W No → Rd W .u8 vt e.told) := ⟨fun W hW => Rd.own (CE.out W hW).ot⟩
    have k0 := hE.c0
    have k1 := hE.c1
    have hgs : g < w.heap.size := hE.lt g hE.hg
    have v0 := hok.v0
    have v1 := hok.v1
    have hln := hok.n
    have u1 : IntKind.u8.wrap (e.val / 8388608) = e.val / 8388608 % 256 := IntKind.wrap_u8 _
    have u2 : IntKind.u8.wrap (e.val / 32768) = e.val / 32768 % 256 := IntKind.wrap_u8 _
    have u3 : IntKind.u8.wrap (e.val / 128) = e.val / 128 % 256 := IntKind.wrap_u8 _
    have u4 : IntKind.u8.wrap (e.val * 2) = e.val * 2 % 256 := IntKind.wrap_u8 _
    have u5 : IntKind.u64.wrap (e.val * 2) = e.val * 2 := wraps_u64 _ (by omega) (by omega)
    clear hE hok hokr
    go_region_held3 (fun w' => w'.cell? ⟨g, 0, none⟩ = some vt ∧ w'.cell? ⟨g, 1, none⟩ = some (.int .u64 e.val)) (first | go_keep | exact ⟨by assumption, by assumption⟩) (first
      | (refine appNs rfl (.tmp 29) (.tmp 54) 26 5 .u8 1 rfl Try.underlying26 info5 (by omega) _ e.told [e.val / 8388608 % 256, e.val / 32768 % 256, e.val / 128 % 256, e.val * 2 % 256] _ 4 4 rfl rfl rfl ?_ ?_ ?_ ?_
         · intro j hj
           have hj4 : j = 0 ∨ j = 1 ∨ j = 2 ∨ j = 3 := by omega
           rcases hj4 with rfl | rfl | rfl | rfl <;> first | exact blk_cell HB.out _ | go_simp
         · first
           | exact own_alloc HO.out.1 _
           | exact HO.out.1
         · omega
         intro vb w2 ho hch hxt
         have hch2 : Chg w w2 No := by
           refine Chg.trans ?_ hch (Ext.new HO.out.2.2)
           repeat (first | exact HO.out.2.1 | apply Chg.alloc | apply Chg.drew | apply Chg.drewN)
         have hge2 : Ge w.heap.size (blkOf vb) := by
           refine HO.out.2.2.ext ?_ hxt
           refine Nat.le_trans HO.out.2.1.size ?_
           first | exact Nat.le_refl _ | simp
         obtain ⟨r0, r1, _, _, _, _, rf⟩ := ecell (CE.out w2 hch2).blk
         have HA := Aside0.mk (And.intro ho (And.intro hch2 hge2))
         clear ho hch hxt hch2 hge2 rf)
      | (go_at_call 69
         refine (clone_calls _ vt e.told (CR.out _ (by repeat (first | exact Chg.refl _ _ | apply Chg.alloc | apply Chg.drew | apply Chg.drewN))) (by omega)).mono ?_
         rintro r w1 ⟨va, rfl, ho, hch, hge⟩
         have hch' : Chg w w1 No := Chg.trans (by repeat (first | exact Chg.refl _ _ | apply Chg.alloc | apply Chg.drew | apply Chg.drewN)) hch (Ext.refl _ _)
         obtain ⟨q0, q1, _, _, _, _, qf⟩ := ecell (CE.out w1 hch').blk
         have hgs1 : g < w1.heap.size := (CE.out w1 hch').lt g (CE.out w1 hch').hg
         try have HB := Aside0.mk (hch.blk (g := w.heap.size) (o := .cells #[.int .u8 (e.val / 8388608 % 256), .int .u8 (e.val / 32768 % 256), .int .u8 (e.val / 128 % 256), .int .u8 (e.val * 2 % 256)] 5) (heap_alloc_new w _) (fun h => h))
         have HO := Aside0.mk (And.intro ho (And.intro hch' (show Ge w.heap.size (blkOf va) from fun b hb => by have := hge b hb; simp at this; omega)))
         clear ho hch hge hch' qf))
    all_goals
      go_wp2_with fail
      go_meet
      exact HA
  case rest =>
    clear hE hok hokr
    obtain ⟨A6, c6, rfl⟩ := own_slice hcut.out.1
    have hmk := print_make (P := Try.prog) 26 5 .u8 1 Try.underlying26 info5 (by omega) n (by omega)
    have hsz5 : (Try.prog.info? 5).map (·.size) = some 1 := by
      obtain ⟨i0, hi, hz0, hz1, hz2⟩ := info_parts info5
      rw [hi]; simp [hz1]
    have HM : Aside0 ((wc.alloc (.cells (madeCells #[.int .u8 0] n) 5)).ownsRow 0 5 1 (.slice (some ⟨wc.heap.size, 0, none⟩) n n) n (nums .u8 (List.replicate n 0)) ∧ ReadsInt (wc.alloc (.cells (madeCells #[.int .u8 0] n) 5)) .u8 A6 e.all.length e.all) :=
      ⟨own_made wc 0 5 .u8 n (Nat.zero_le _) (by omega), (own_reads' hcut.out.1).below (below_alloc (Below.refl _ _) _)⟩
    have hall : e.all.length ≤ 200000000000 := by
      have := HK.out.2.1.n
      simp [E.all]; omega
    go_upto_region 8 with (with_reducible refine copyRow (o := ⟨some 60, _, _, _, _, _⟩) rfl (.tmp 58) (.tmp 59) 26 5 .u8 rfl Try.underlying26 hsz5 wc.heap.size n n (List.replicate n 0) e.all A6 c6 rfl rfl HM.out.1 HM.out.2 ?_; intro w3 ho3 hc3)
    have H3 : Aside0 (w3.ownsRow 0 5 1 (.slice (some ⟨wc.heap.size, 0, none⟩) n n) n (nums .u8 (e.out0 n)) ∧ Chg w w3 No ∧ w.heap.size ≤ wc.heap.size ∧ w3.ownsRow 0 5 1 (.slice A6 e.all.length c6) e.all.length (nums .u8 e.all)) := by
      refine ⟨ho3, Chg.trans (hcut.out.2.1.alloc _) hc3 (fun k hk => .inr (by rw [hk]; exact hcut.out.2.1.size)), hcut.out.2.1.size, hc3.own (own_alloc hcut.out.1 _) (fun k hk hh => ?_)⟩
      have := own_lt hcut.out.1 k hk
      omega
    clear ho3 hc3 HM hmk
    generalize hgo : wc.heap.size = go at *
    clear hcut hgo
    generalize hL : e.all.length = L at *
    have HL := Aside0.mk hL
    clear hL
    obtain ⟨bb, hbb⟩ : ∃ b : Bool, b = (decide (n < L) && anyNZ (e.all.drop n)) := ⟨_, rfl⟩
    have HBB := Aside0.mk hbb
    clear hbb
    go_frame
    go_cut [70] (fun s70 wx => ∃ nd, s70 = .bool bb ∧ wx = w3.drewN nd)
    case first =>
      by_cases hl : n < L
      · obtain ⟨A8, hsl, hrd, hcap⟩ := print_cut_int (P := Try.prog) (k := .u8) 26 5 Try.underlying26 (Classical.choose_spec (Option.map_eq_some_iff.1 hsz5)).1 (Classical.choose_spec (Option.map_eq_some_iff.1 hsz5)).2 A6 c6 e.all n (by omega) (by rw [HL.out]; omega) (by rw [HL.out]; exact own_le H3.out.2.2.2)
        have hd : (e.all.drop n).length = L - n := by rw [List.length_drop, HL.out]
        rw [Int.toNat_natCast, HL.out] at hsl
        rw [Int.toNat_natCast] at hrd
        have hlb : decide (n < L) = true := by simpa using hl
        have hcon := contains_calls w3 A8 (c6 - n) (e.all.drop n) (hrd w3 (by rw [HL.out]; exact own_reads' H3.out.2.2.2)) (by rw [hd]; omega)
        rw [hd] at hcon
        have HR := Aside0.mk hcon
        clear hrd hcap hcon
        rw [hd] at hsl
        go_wp2_with fail
        refine HR.out.mono ?_
        rintro r w4 ⟨rfl, rfl⟩
        go_wp2_with fail
        go_meet
        exact ⟨0, by rw [HBB.out, hlb]; rfl, rfl⟩
      · have hlb : decide (n < L) = false := by simpa using hl
        go_wp2_with fail
        go_meet
        exact ⟨0, by rw [HBB.out, hlb]; rfl, rfl⟩
    case rest =>
      obtain ⟨nd, rfl, rfl⟩ := hcut
      go_upto_if 70 with fail
      go_cut [] (fun wx => Aside0 (wx.ownsRow 0 5 1 (.slice (some ⟨go, 0, none⟩) n n) n (nums .u8 (e.out1 n)) ∧ Chg w wx No ∧ w.heap.size ≤ go))
      case first =>
        cases bb with
        | true =>
          have h1 : e.out1 n = increase (e.out0 n) 0 := by
            rw [E.out1, HL.out, if_pos (by simpa using HBB.out.symm)]
          have h2 : (e.out0 n).length = n := by have := H3.out.1.1; simpa [nums] using this
          have HI := increase_calls (w3.drewN nd) (.slice (some ⟨go, 0, none⟩) n n) (e.out0 n) 0 (by rw [h2]; exact H3.out.1) (e.out0_bytes n HK.out.2.2) (by simp) (by omega)
          rw [h2, ← h1] at HI
          have HI' := Aside0.mk HI
          clear HI h1 h2
          go_wp2_with fail
          refine HI'.out.mono ?_
          rintro r w4 ⟨rfl, ho4, hc4⟩
          have H4 : Aside0 (w4.ownsRow 0 5 1 (.slice (some ⟨go, 0, none⟩) n n) n (nums .u8 (e.out1 n)) ∧ Chg w w4 No ∧ w.heap.size ≤ go) := ⟨ho4, Chg.trans (H3.out.2.1.drewN _) hc4 (Ext.slice H3.out.2.2.1), H3.out.2.2.1⟩
          clear ho4 hc4
          go_wp2_with fail
          go_meet
          exact H4
        | false =>
          have h1 : e.out1 n = e.out0 n := by
            rw [E.out1, HL.out, if_neg (by have := HBB.out.symm; simpa using this)]
          go_wp2_with fail
          go_meet
          exact ⟨by rw [h1]; exact H3.out.1, H3.out.2.1.drewN _, H3.out.2.2.1⟩
      case rest =>
        clear hsz5 HBB HL H3
        obtain ⟨m, hm⟩ := Int.eq_ofNat_of_zero_le HK.out.2.2.b0
        have HM := Aside0.mk hm
        have k4 := (CE.out wc hcut.out.2.1).c4
        rw [hm] at k4
        have hm8 : m ≤ 8 * n := by
          have h1 := HK.out.2.2.cnt
          have h2 := bitLen_le32 e.rng.toNat (by have := HK.out.2.1.r2; omega)
          unfold E.tell at hfit
          omega
        have hml : (e.raw.length : Int) = (m + 7) / 8 := by rw [← hm]; exact HK.out.2.2.len
        clear hm
        have hol : (e.out1 n).length = n := by have := hcut.out.1.1; simpa [nums] using this
        have HOL := Aside0.mk hol
        clear hol
        go_wp2_with (go_at_call 69; refine (clone_calls wc _ (e.out1 n) (Rd.own (e := 5) (by rw [HOL.out]; exact hcut.out.1)) (by rw [HOL.out]; omega)).mono ?_; rintro r w5 ⟨vl, rfl, ho5, hc5, hg5⟩; have k4' := (CE.out w5 (hcut.out.2.1.trans hc5 (Ext.refl _ _))).c4; rw [HM.out] at k4')
        have H5 : Aside0 (w5.ownsRow 0 5 1 vl n (nums .u8 (e.out1 n)) ∧ w5.ownsRow 0 5 1 (.slice (some ⟨go, 0, none⟩) n n) n (nums .u8 (e.out1 n)) ∧ Chg w w5 No ∧ ¬ blkOf vl go ∧ w.heap.size ≤ go) := by
          refine ⟨by have := ho5; rwa [HOL.out] at this, hc5.own hcut.out.1 (fun _ _ h => h), hcut.out.2.1.trans hc5 (Ext.refl _ _), fun hh => ?_, hcut.out.2.2⟩
          have h1 := hg5 go hh
          have h2 := own_lt hcut.out.1 go rfl
          omega
        clear ho5 hc5 hg5 k4 hcut
        go_loopg [9, 10, 11, 79] m (fun k u9 u10 u11 u79 wr => ∃ i : Nat, u79 = .int .i64 i ∧ k + i = m ∧ Aside0 (wr.ownsRow 0 5 1 vl n (nums .u8 (e.out1 n)) ∧ wr.ownsRow 0 5 1 (.slice (some ⟨go, 0, none⟩) n n) n (nums .u8 (layBits e.raw n (e.out1 n) i)) ∧ Chg w wr No))
        case atStart => exact ⟨0, rfl, by omega, ⟨H5.out.1, H5.out.2.1, H5.out.2.2.1⟩⟩
        case round =>
          clear k4'
          obtain ⟨i, rfl, hki, HR⟩ := hrel
          by_cases him : i < m
          · have hEr := CE.out wr HR.out.2.2
            have k3 := hEr.c3
            have k4 := hEr.c4
            rw [HM.out] at k4
            have hor := hEr.orw
            obtain ⟨A9, c9, rfl⟩ := own_slice hor
            obtain ⟨q, hq⟩ : ∃ q : Nat, q = i / 8 := ⟨_, rfl⟩
            obtain ⟨t, ht⟩ : ∃ t : Nat, t = n - 1 - q := ⟨_, rfl⟩
            have hqr : q < e.raw.length := by omega
            have htn : t < n := by omega
            have hqn : q < n := by omega
            have eq : (i : Int) / 8 = (q : Int) := by omega
            have et : (n : Int) - 1 - (q : Int) = (t : Int) := by omega
            have HQ : Aside0 (q = i / 8 ∧ t = n - 1 - i / 8) := ⟨hq, by rw [ht, hq]⟩
            clear hq ht
            obtain ⟨ad9, rfl, hx9⟩ := (own_reads' hor).at_ (q : Int) (by omega) (by omega)
            obtain ⟨ck, fk⟩ := own_at HR.out.2.1 (t : Int) (by omega) (by omega)
            simp only [Int.toNat_natCast] at ck fk hx9
            generalize hrl : e.raw.length = R at *
            have HRL := Aside0.mk hrl
            clear hEr hor hrl
            have hp : (2 : Int) ^ (i % 8) % 256 = 2 ^ (i % 8) := by have := pow_range i; omega
            go_wp2_with fail
            go_region
            go_wp2_with fail
            have eq2 : (i : Int).tdiv 8 = (q : Int) := by rw [Int.tdiv_eq_ediv_of_nonneg (by omega)]; exact eq
            have eq3 : IntKind.i64.wrap (q : Int) = (q : Int) := IntWalk.i64_in _ (by omega)
            have HX : Aside0 ((wr.setCell ⟨go, t, none⟩ (.int .u8 (bits .or .u8 (bits .andNot .u8 (rd (layBits e.raw n (e.out1 n) i) t) (2 ^ (i % 8))) (bits .and .u8 (rd e.raw q) (2 ^ (i % 8)))))).ownsRow 0 5 1 vl n (nums .u8 (e.out1 n)) ∧
                (wr.setCell ⟨go, t, none⟩ (.int .u8 (bits .or .u8 (bits .andNot .u8 (rd (layBits e.raw n (e.out1 n) i) t) (2 ^ (i % 8))) (bits .and .u8 (rd e.raw q) (2 ^ (i % 8)))))).ownsRow 0 5 1 (.slice (some ⟨go, 0, none⟩) n n) n (nums .u8 (layBits e.raw n (e.out1 n) (i + 1))) ∧
                Chg w (wr.setCell ⟨go, t, none⟩ (.int .u8 (bits .or .u8 (bits .andNot .u8 (rd (layBits e.raw n (e.out1 n) i) t) (2 ^ (i % 8))) (bits .and .u8 (rd e.raw q) (2 ^ (i % 8)))))) No) := by
              obtain ⟨h1, h2, h3⟩ := HR.out
              refine ⟨own_setCell (p := ⟨go, t, none⟩) h1 (fun hh => H5.out.2.2.2.1 hh.symm) _, ?_, h3.setCell (p := ⟨go, t, none⟩) (.inr H5.out.2.2.2.2) _⟩
              have := (own_store h2 (t : Int) (bits .or .u8 (bits .andNot .u8 (rd (layBits e.raw n (e.out1 n) i) t) (2 ^ (i % 8))) (bits .and .u8 (rd e.raw q) (2 ^ (i % 8))))).1
              rw [Int.toNat_natCast] at this
              show World.ownsRow _ 0 5 1 _ n (nums .u8 (layBit e.raw n (layBits e.raw n (e.out1 n) i) i))
              unfold layBit
              rw [← HQ.out.1, show n - 1 - q = t by rw [HQ.out.1, HQ.out.2]]
              exact this
            go_region
            all_goals
              go_wp2_with fail
              go_roundg (gk - 1)
              case measure => omega
              case rel => exact ⟨i + 1, by go_num, by omega, ⟨HX.out.1, HX.out.2.1, (HX.out.2.2.drew).drew⟩⟩
          · have hmi : i = m := by omega
            have H6 : Aside0 (wr.ownsRow 0 5 1 vl n (nums .u8 (e.out1 n)) ∧ wr.ownsRow 0 5 1 (.slice (some ⟨go, 0, none⟩) n n) n (nums .u8 (e.out2 n)) ∧ Chg w wr No) := ⟨HR.out.1, by rw [E.out2, HM.out, Int.toNat_natCast, ← hmi]; exact HR.out.2.1, HR.out.2.2⟩
            obtain ⟨Al, cl, rfl⟩ := own_slice H6.out.1
            clear HR hmi
            have k4 := (CE.out wr H6.out.2.2).c4
            rw [HM.out] at k4
            have hl2 : (e.out2 n).length = n := by have := H6.out.2.1.1; simpa [nums] using this
            have hb2 : Bytes (e.out2 n) := e.out2_bytes n HK.out.2.2
            obtain ⟨cc, hcc⟩ : ∃ c : Int, c = cmpL (e.out2 n) (e.out1 n) := ⟨_, rfl⟩
            have HC := Aside0.mk (And.intro hl2 (And.intro hb2 hcc))
            clear hl2 hb2
            by_cases hneg : cc < 0
            · have hdone : e.done n = increase (e.out2 n) m := by rw [E.done, ← hcc, if_pos hneg, HM.out]; rfl
              have HD := Aside0.mk hdone
              clear hdone hcc
              go_wp2_with (first
                | (go_at_call 99; refine (compare_calls wr n _ _ _ _ (e.out2 n) (e.out1 n) H6.out.2.1 H6.out.1 (by omega)).mono ?_; rintro r w6 ⟨rfl, ⟨nd6, rfl⟩⟩; rw [← HC.out.2.2])
                | (go_at_call 98; have HI := Aside0.mk (increase_calls (wr.drewN nd6) (.slice (some ⟨go, 0, none⟩) n n) (e.out2 n) m (by rw [HC.out.1]; exact H6.out.2.1) HC.out.2.1 (by rw [HC.out.1]; omega) (by rw [HC.out.1]; omega)); refine HI.out.mono ?_; rintro r w7 ⟨rfl, ho7, hc7⟩; have H7 := Aside0.mk (And.intro ho7 hc7); clear ho7 hc7))
              go_returns
              obtain ⟨ho7, hc7⟩ := H7.out
              exact ⟨_, rfl, by rw [HD.out]; rw [HC.out.1] at ho7; exact ho7, Chg.trans (H6.out.2.2.drewN _) hc7 (Ext.slice H5.out.2.2.2.2), Ge.slice H5.out.2.2.2.2⟩
            · have hdone : e.done n = e.out2 n := by rw [E.done, ← hcc, if_neg hneg]
              have HD := Aside0.mk hdone
              clear hdone hcc
              go_wp2_with (first
                | (go_at_call 99; refine (compare_calls wr n _ _ _ _ (e.out2 n) (e.out1 n) H6.out.2.1 H6.out.1 (by omega)).mono ?_; rintro r w6 ⟨rfl, ⟨nd6, rfl⟩⟩; rw [← HC.out.2.2]))
              go_returns
              exact ⟨_, rfl, by rw [HD.out]; exact H6.out.2.1, H6.out.2.2.drewN _, Ge.slice H5.out.2.2.2.2⟩
end Go.Proofs.Ytiabenmgbikllaa.M

-- Great numbers: what a reader becomes, in numbers. Conditions: bounds on the numbers.
namespace Go.Proofs.Ytiabenmgbikllaa.M
set_option linter.unusedVariables false
open Go.RowKit Go.Proofs.YtiabenmgbikllaaW.PrintWords Go.Proofs.YtiabenmgbikllaaW.PrintLast Go.Proofs.YtiabenmgbikllaaW.PrintMore Go.Proofs.Ytiabenmgbikllaa.PAll
attribute [local go_sem] max2_int min2_int max_two min_two max_three min_three max_four min_four

theorem bitLenAux_spec : ∀ n x, x < 2 ^ n → x < 2 ^ Lib.bitLenAux n x ∧ (x ≠ 0 → 2 ^ Lib.bitLenAux n x ≤ 2 * x)
  | 0, x, h => by
    have : x = 0 := by simpa using h
    subst this
    simp [Lib.bitLenAux]
  | n + 1, x, h => by
    simp only [Lib.bitLenAux]
    by_cases hx : x = 0
    · simp [hx]
    · rw [if_neg hx]
      obtain ⟨i1, i2⟩ := bitLenAux_spec n (x / 2) (by rw [Nat.pow_succ] at h; omega)
      rw [Nat.add_comm 1, Nat.pow_succ]
      refine ⟨by omega, fun _ => ?_⟩
      by_cases h2 : x / 2 = 0
      · rw [h2] at i1 ⊢
        have e : Lib.bitLenAux n 0 = 0 := by cases n <;> simp [Lib.bitLenAux]
        rw [e]
        omega
      · have := i2 h2
        omega
/-- How many of its bits are read as they are, and the bound of the others. -/
def bB (ft : Int) : Nat := Lib.bitLen (ft - 1).toNat - 8
def bF (ft : Int) : Int := (ft - 1) / 2 ^ bB ft + 1
theorem bB_ok (ft : Int) (h0 : 257 ≤ ft) (h1 : ft ≤ 4294967295) : Lib.bitLen (ft - 1).toNat = bB ft + 8 ∧ 1 ≤ bB ft ∧ bB ft ≤ 24 ∧ 2 ≤ bF ft ∧ bF ft ≤ 256 ∧ (ft - 1) / 2 ^ bB ft = bF ft - 1 := by
  obtain ⟨n, hn⟩ := Int.eq_ofNat_of_zero_le (show 0 ≤ ft - 1 by omega)
  obtain ⟨s1, s2⟩ := bitLenAux_spec 64 n (by omega)
  have s2' := s2 (by omega)
  have hL : Lib.bitLen n = Lib.bitLenAux 64 n := rfl
  rw [← hL] at s1 s2'
  have hle : Lib.bitLen n ≤ 32 := bitLenAux_lt 64 n 32 (by omega)
  have hge : 9 ≤ Lib.bitLen n := by
    by_cases h : 9 ≤ Lib.bitLen n
    · exact h
    · have : 2 ^ Lib.bitLen n ≤ 2 ^ 8 := Nat.pow_le_pow_right (by decide) (by omega)
      omega
  have hb : bB ft = Lib.bitLen n - 8 := by unfold bB; rw [hn]; rfl
  have hp : 0 < 2 ^ bB ft := Nat.two_pow_pos _
  have e : 2 ^ Lib.bitLen n = 256 * 2 ^ bB ft := by
    rw [show Lib.bitLen n = 8 + bB ft from by omega, Nat.pow_add]
  rw [e] at s1 s2'
  have hq1 : n / 2 ^ bB ft < 256 := (Nat.div_lt_iff_lt_mul hp).2 s1
  have hq2 : 1 ≤ n / 2 ^ bB ft := (Nat.le_div_iff_mul_le hp).2 (by omega)
  have hF : bF ft = ((n / 2 ^ bB ft : Nat) : Int) + 1 := by unfold bF; rw [hn]; simp
  refine ⟨by rw [hn]; show Lib.bitLen n = _; omega, by omega, by omega, by omega, by omega, ?_⟩
  rw [hF, hn]; simp
def D.bigV0 (d : D) (ft : Int) : Int := d.choose (bF ft) * 2 ^ bB ft + (d.small (bF ft)).bitsV (bB ft)
/-- What is told of a great number, and the reader behind it. -/
def D.bigV (d : D) (ft : Int) : Int := if ft ≤ d.bigV0 ft then ft - 1 else d.bigV0 ft
def D.bigD (d : D) (ft : Int) : D := if ft ≤ d.bigV0 ft then { (d.small (bF ft)).bits (bB ft) with bad := true } else (d.small (bF ft)).bits (bB ft)
def D.uintV (d : D) (ft : Int) : Int := if ft ≤ 256 then d.choose ft else d.bigV ft
def D.uintD (d : D) (ft : Int) : D := if ft ≤ 256 then d.small ft else d.bigD ft
theorem normL_raw : ∀ (j : Nat) (d : D), (D.normL j d).b = d.b ∧ (D.normL j d).back = d.back ∧ (D.normL j d).window = d.window ∧ (D.normL j d).waiting = d.waiting ∧ (D.normL j d).bad = d.bad
  | 0, d => ⟨rfl, rfl, rfl, rfl, rfl⟩
  | j + 1, d => by
    unfold D.normL
    split
    · exact normL_raw j d.step
    · exact ⟨rfl, rfl, rfl, rfl, rfl⟩
theorem take_raw (d : D) (h : DRaw d) (fl fh ft : Int) : DRaw (d.take fl fh ft) := by
  obtain ⟨a1, a2, a3, a4, _⟩ := normL_raw 3 (d.take0 fl fh ft)
  obtain ⟨h1, h2, h3, h4, h5, h6⟩ := h
  have e1 : (d.take fl fh ft).b = d.b := a1
  have e2 : (d.take fl fh ft).back = d.back := a2
  have e3 : (d.take fl fh ft).window = d.window := a3
  have e4 : (d.take fl fh ft).waiting = d.waiting := a4
  exact ⟨by rw [e4]; exact h1, by rw [e4]; exact h2, by rw [e3]; exact h3, by rw [e3, e4]; exact h4, by rw [e2]; exact h5, by rw [e1, e2]; exact h6⟩
theorem new_raw (b : List Int) : DRaw (D.new b) := by
  obtain ⟨a1, a2, a3, a4, _⟩ := normL_raw 3 (D.first b)
  have e1 : (D.new b).b = b := a1
  have e2 : (D.new b).back = 0 := a2
  have e3 : (D.new b).window = 0 := a3
  have e4 : (D.new b).waiting = 0 := a4
  exact ⟨by rw [e4]; omega, by rw [e4]; omega, by rw [e3]; omega, by rw [e3, e4]; decide, by rw [e2]; omega, by rw [e1, e2]; omega⟩
theorem sym_raw (d : D) (h : DRaw d) (t : List Int) : DRaw (d.sym t) := take_raw d h _ _ _
theorem small_raw (d : D) (h : DRaw d) (ft : Int) : DRaw (d.small ft) := take_raw d h _ _ _
theorem bigV0_ok (d : D) (h : DOk d) (hr : DRaw d) (ft : Int) (h0 : 257 ≤ ft) (h1 : ft ≤ 4294967295) (hc : d.count ≤ 800000000000000000) :
    0 ≤ d.choose (bF ft) ∧ d.choose (bF ft) < 256 ∧ 0 ≤ (d.small (bF ft)).bitsV (bB ft) ∧ (d.small (bF ft)).bitsV (bB ft) < 2 ^ bB ft ∧ (2 : Int) ^ bB ft ≤ 16777216 ∧ (1 : Int) ≤ 2 ^ bB ft ∧ 0 ≤ d.choose (bF ft) * 2 ^ bB ft ∧ d.choose (bF ft) * 2 ^ bB ft ≤ 255 * 16777216 ∧ DOk ((d.small (bF ft)).bits (bB ft)) ∧ DRaw ((d.small (bF ft)).bits (bB ft)) ∧ ((d.small (bF ft)).bits (bB ft)).count ≤ d.count + 48 ∧ ((d.small (bF ft)).bits (bB ft)).b = d.b := by
  obtain ⟨_, b1, b2, f1, f2, _⟩ := bB_ok ft h0 h1
  obtain ⟨a1, a2, a3, a4, a5⟩ := small_ok d h (bF ft) (by omega) (by omega) (by omega)
  obtain ⟨c1, c2, c3, c4, c5, c6⟩ := bits_ok _ a1 (small_raw d hr (bF ft)) (bB ft : Int) (by omega) (by omega) (by omega)
  have hp : (1 : Int) ≤ 2 ^ bB ft := by exact_mod_cast Nat.one_le_two_pow
  have hp2 : (2 : Int) ^ bB ft ≤ 16777216 := by
    have : (2 : Int) ^ bB ft ≤ 2 ^ 24 := by exact_mod_cast Nat.pow_le_pow_right (by decide) b2
    omega
  refine ⟨a4, by omega, c5, by simpa using c6, hp2, hp, Int.mul_nonneg a4 (by omega), ?_, c1, c2, by omega, c4.trans a3⟩
  exact Int.le_trans (Int.mul_le_mul_of_nonneg_right (show d.choose (bF ft) ≤ 255 by omega) (by omega)) (Int.mul_le_mul_of_nonneg_left hp2 (by omega))
end Go.Proofs.Ytiabenmgbikllaa.M

-- Great numbers are read by the program and by the document's own reader. Conditions: bounds on the numbers.
namespace Go.Proofs.Ytiabenmgbikllaa.M
set_option linter.unusedVariables false
open Go.RowKit Go.Proofs.YtiabenmgbikllaaW.PrintWords Go.Proofs.YtiabenmgbikllaaW.PrintLast Go.Proofs.YtiabenmgbikllaaW.PrintMore Go.Proofs.Ytiabenmgbikllaa.PAll
attribute [local go_sem] max2_int min2_int max_two min_two max_three min_three max_four min_four

set_option maxHeartbeats 2000000 in
set_option maxRecDepth 100000 in
theorem dbig_calls (w0 w : World) (g : Nat) (d : D) (ft : Int) (h : DecAt w0 w g d) (hd : DOk d) (hr : DRaw d) (f0 : 257 ≤ ft) (f1 : ft ≤ 4294967295) (hk : d.count ≤ 800000000000000000) :
    Calls Try.prog 81 #[.pointer (some ⟨g, 0, none⟩), .int .i64 ft] w fun r w' => r = .returned (.int .i64 (d.bigV ft)) ∧ DecAt w0 w' g (d.bigD ft) ∧ Chg w w' (One g) := by
  obtain ⟨n1, n2, n3, n4, n5, n6⟩ := bB_ok ft f0 f1
  obtain ⟨v1, v2, v3, v4, v5, v6, v7, v8, v9, v10, v11, v12⟩ := bigV0_ok d hd hr ft f0 f1 hk
  have hp := small_place d hd (bF ft) (by omega) (by omega)
  have hs := small_ok d hd (bF ft) (by omega) (by omega) (by omega)
  have HH := Aside0.mk (And.intro h (And.intro hd (And.intro hr (And.intro hp (And.intro hs (small_raw d hr (bF ft)))))))
  have hc1 : (d.small (bF ft)).count ≤ 900000000000000000 := by have := hs.2.1; omega
  clear h hd hr hp hs v9 v10 v11 v12
  have b1 : decide (ft ≤ 1) = false := decide_eq_false (by omega)
  have b2 : decide (4294967295 < ft) = false := decide_eq_false (by omega)
  have b3 : decide (ft ≤ 256) = false := decide_eq_false (by omega)
  have u1 : IntKind.u64.wrap (ft - 1) = ft - 1 := wraps_u64 _ (by omega) (by omega)
  have u2 : IntKind.u64.wrap (bF ft) = bF ft := wraps_u64 _ (by omega) (by omega)
  have u3 : IntKind.u64.wrap (d.choose (bF ft) + 1) = d.choose (bF ft) + 1 := wraps_u64 _ (by omega) (by omega)
  obtain ⟨L, hL⟩ : ∃ L, L = Lib.bitLen (ft - 1).toNat := ⟨_, rfl⟩
  rw [← hL] at n1
  go_enter Try.func81, Try.ntmps81
  go_wp2_with fail

  first
    | go_quiet ((go_at_call 124; exact Calls.quiet_of_same (Try.bits_Len (ft - 1) _ (by omega) (by omega))))
    | (refine (Try.bits_Len (ft - 1) _ (by omega) (by omega)).mono ?_; rintro r w1 ⟨rfl, rfl⟩)
  rw [← hL, n1]
  go_wp2_with fail
  refine (dchoose_calls w0 w1 g d (bF ft) HH.out.1 HH.out.2.1 (by omega) (by omega)).mono ?_
  rintro r w2 ⟨rfl, h2, k2⟩
  have H2 := Aside0.mk (And.intro h2 k2)
  clear h2 k2
  have s1 : IntKind.i64.wrap (d.choose (bF ft) * 2 ^ bB ft) = d.choose (bF ft) * 2 ^ bB ft := by rw [IntKind.wrap_i64]; omega
  have s2 : IntKind.i64.wrap (d.choose (bF ft)) = d.choose (bF ft) := by rw [IntKind.wrap_i64]; omega
  go_wp2_with fail
  refine (dtake_calls w0 w2 g d (d.choose (bF ft)) (d.choose (bF ft) + 1) (bF ft) H2.out.1 HH.out.2.1 HH.out.2.2.2.1 (by omega)).mono ?_
  rintro r w3 ⟨rfl, h3, k3⟩
  have H3 : Aside0 (DecAt w0 w3 g (d.small (bF ft)) ∧ Chg w1 w3 (One g)) := ⟨h3, H2.out.2.trans k3 (Ext.refl _ _)⟩
  clear H2 h3 k3
  go_wp2_with fail
  obtain ⟨V, hV⟩ : ∃ V, V = (d.small (bF ft)).bitsV (bB ft) := ⟨_, rfl⟩
  obtain ⟨X, hX⟩ : ∃ X, X = d.choose (bF ft) * 2 ^ bB ft := ⟨_, rfl⟩
  have h0 : Aside0 (d.bigV0 ft = X + V) := ⟨by unfold D.bigV0; rw [hX, hV]⟩
  have HV := Aside0.mk hV
  rw [← hV] at v3 v4
  rw [← hX] at v7 v8 s1
  have hX' := hX.symm
  have HX := Aside0.mk hX
  clear hV hX
  by_cases hlt : ft ≤ X + V
  · have b4 : decide (ft ≤ X + V) = true := decide_eq_true hlt
    have e1 : Aside0 (d.bigV ft = ft - 1 ∧ d.bigD ft = { (d.small (bF ft)).bits (bB ft) with bad := true }) := ⟨by unfold D.bigV D.bigD; rw [h0.out, if_pos hlt, if_pos hlt]; exact ⟨rfl, rfl⟩⟩
    go_region_with (
      (go_at_call 89
       refine (dbits_calls w0 _ g (d.small (bF ft)) (bB ft : Int) (H3.out.1.chg (S := No) (by repeat (first | exact Chg.refl _ No | apply Chg.drew | apply Chg.drewN)) (fun h => h) (fun _ h => False.elim h)) HH.out.2.2.2.2.1.1 HH.out.2.2.2.2.2 (by omega) (by omega) (by omega)).mono ?_
       rintro r w4 ⟨rfl, h4, k4⟩
       rw [← HV.out]
       have H4 : Aside0 (DecAt w0 w4 g ((d.small (bF ft)).bits (bB ft)) ∧ Chg w1 w4 (One g)) := ⟨h4, H3.out.2.drew.trans k4 (Ext.refl _ _)⟩
       clear h4 k4))
    obtain ⟨⟨A, c, hb, hge, hrd⟩, hB⟩ := H4.out.1
    have c9 := cellS91_9 hb
    have z9 := blk_frozen hb 9
    clear hb hrd hB
    go_wp2_with fail
    go_returns
    refine ⟨by rw [e1.out.1]; rfl, ?_, H4.out.2.setCell (p := ⟨g, 9, none⟩) (.inl rfl) _⟩
    rw [e1.out.2]
    exact ⟨H4.out.1.1.set_9 true, H4.out.1.2.setCell (p := ⟨g, 9, none⟩) hge _⟩
  · have b4 : decide (ft ≤ X + V) = false := decide_eq_false hlt
    have e1 : Aside0 (d.bigV ft = X + V ∧ d.bigD ft = (d.small (bF ft)).bits (bB ft)) := ⟨by unfold D.bigV D.bigD; rw [h0.out, if_neg hlt, if_neg hlt]; exact ⟨rfl, rfl⟩⟩
    go_region_with (
      (go_at_call 89
       refine (dbits_calls w0 _ g (d.small (bF ft)) (bB ft : Int) (H3.out.1.chg (S := No) (by repeat (first | exact Chg.refl _ No | apply Chg.drew | apply Chg.drewN)) (fun h => h) (fun _ h => False.elim h)) HH.out.2.2.2.2.1.1 HH.out.2.2.2.2.2 (by omega) (by omega) (by omega)).mono ?_
       rintro r w4 ⟨rfl, h4, k4⟩
       rw [← HV.out]
       have H4 : Aside0 (DecAt w0 w4 g ((d.small (bF ft)).bits (bB ft)) ∧ Chg w1 w4 (One g)) := ⟨h4, H3.out.2.drew.trans k4 (Ext.refl _ _)⟩
       clear h4 k4))
    go_wp2_with fail
    go_returns
    refine ⟨by rw [e1.out.1]; rfl, ?_, H4.out.2⟩
    rw [e1.out.2]
    exact H4.out.1
end Go.Proofs.Ytiabenmgbikllaa.M
