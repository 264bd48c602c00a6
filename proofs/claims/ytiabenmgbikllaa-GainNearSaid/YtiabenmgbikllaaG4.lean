/- Parts are read one behind the other: two of them. Conditions: each part's function keeps to its contract. -/
import Derived.Test.YtiabenmgbikllaaG3
import Derived.Laws.EntriesVeiled
import Derived.Maps.RangeWalk
namespace Go.Proofs.Ytiabenmgbikllaa.M
set_option linter.unusedVariables false
open Go.RowKit Go.Proofs.YtiabenmgbikllaaW.PrintWords Go.Proofs.YtiabenmgbikllaaW.PrintLast Go.Proofs.YtiabenmgbikllaaW.PrintMore Go.Proofs.Ytiabenmgbikllaa.PAll
attribute [local go_sem] max2_int min2_int max_two min_two max_three min_three max_four min_four

theorem info3' : (Try.prog.info? 3).map (fun i => (i.zero, i.size, i.bytes)) = some (some (.int .i64 0), 1, 8) := by kernel_rfl
/-- What a reading function does: it tells v and leaves the reader as d'. -/
def ReadsAs (w0 : World) (g : Nat) (p : FuncId) (k : Int) (d d' : D) (v : Int) : Prop :=
  ∀ w, DecAt w0 w g d → Calls Try.prog p #[.pointer (some ⟨g, 0, none⟩), .int .i64 k] w fun r w' => r = .returned (.int .i64 v) ∧ DecAt w0 w' g d' ∧ Chg w w' (One g)

set_option maxHeartbeats 2000000 in
set_option maxRecDepth 100000 in
theorem together80_calls (w0 w : World) (g pb : Nat) (d d1 d2 : D) (k l v u : Int) (h : DecAt w0 w g d) (hp : ReadsAs w0 g 80 k d d1 v) (hq : ReadsAs w0 g 81 l d1 d2 u) (hne : pb ≠ g)
    (hb : w.heap[pb]? = some (.cells #[.func (.func 80) #[] #[], .int .i64 k, .func (.func 81) #[] #[], .int .i64 l] 101 (0, 0))) :
    Calls Try.prog 79 #[.pointer (some ⟨g, 0, none⟩), .slice (some ⟨pb, 0, none⟩) 2 2] w fun r w' => ∃ z, r = .returned z ∧ w'.ownsRow 0 3 1 z 2 (nums .i64 [v, u]) ∧ DecAt w0 w' g d2 ∧ Chg w w' (One g) ∧ Ge w.heap.size (blkOf z) := by
  have HH := Aside0.mk (And.intro h (And.intro hp (And.intro hq hb)))
  have c0 : w.cell? ⟨pb, 0, none⟩ = some (.func (.func 80) #[] #[]) := blk_cell hb 0
  have c1 : w.cell? ⟨pb, 1, none⟩ = some (.int .i64 k) := blk_cell hb 1
  have hlt := blk_lt hb
  have hg := h.lt
  clear h hp hq hb
  go_enter Try.func79, Try.ntmps79
  go_wp2
  refine wp_loop_rounds 3 ?_
  rw [rounds_succ]
  go_wp2_with fail
  refine (HH.out.2.1 _ (HH.out.1.chg ((Chg.refl w No).alloc _) (fun h => h) (fun _ h => h.elim))).mono ?_
  rintro r w1 ⟨rfl, h1, k1⟩
  have H1 : Aside0 (DecAt w0 w1 g d1 ∧ Chg w w1 (One g)) := ⟨h1, ((Chg.refl w (One g)).alloc _).trans k1 (Ext.refl _ _)⟩
  clear h1 k1
  go_wp2_with (at_builtin; refine app1 rfl (.tmp 14) (.tmp 21) 32 3 .i64 8 rfl Try.underlying32 info3' (by omega) (.slice none 0 0) [] v rfl rfl (own_nil _ _ _ _) (by simp) ?_; intro v1 w2 ho2 hc2 hx2)
  obtain ⟨A2, n2, hv1⟩ := own_slice ho2
  rw [show ([] ++ [v] : List Int).length = 1 from rfl] at hv1
  subst hv1
  have hc2' : Chg w w2 (One g) := H1.out.2.trans hc2 (fun k hk => by cases hk)
  have hb2 := hc2'.blk HH.out.2.2.2 hne
  have e0 : w2.cell? ⟨pb, 2, none⟩ = some (.func (.func 81) #[] #[]) := blk_cell hb2 2
  have e1 : w2.cell? ⟨pb, 3, none⟩ = some (.int .i64 l) := blk_cell hb2 3
  have hl2 := blk_lt hb2
  have hge2 : Ge w.heap.size (blkOf (.slice A2 1 n2)) := (Ge.ext (B := w.heap.size) (f := blkOf (.slice none 0 0)) (fun k hk => by cases hk) H1.out.2.size hx2)
  have H2 : Aside0 (DecAt w0 w2 g d1 ∧ Chg w w2 (One g) ∧ w2.ownsRow 0 3 1 (.slice A2 1 n2) 1 (nums .i64 [v]) ∧ Ge w.heap.size (blkOf (.slice A2 1 n2))) :=
    ⟨H1.out.1.chg hc2 (fun hk => by cases hk) (fun k hk => by cases hk), hc2', ho2, hge2⟩
  clear ho2 hc2 hx2 hc2' hb2 hge2 c0 c1
  try go_frame
  rw [rounds_succ]
  go_wp2_with fail
  refine (HH.out.2.2.1 _ (H2.out.1.chg ((Chg.refl w2 No).alloc _) (fun h => h) (fun _ h => h.elim))).mono ?_
  rintro r w3 ⟨rfl, h3, k3⟩
  have k3' := ((Chg.refl w2 (One g)).alloc _).trans k3 (Ext.refl _ _)
  have H3 : Aside0 (DecAt w0 w3 g d2 ∧ Chg w w3 (One g) ∧ w3.ownsRow 0 3 1 (.slice A2 1 n2) 1 (nums .i64 [v])) :=
    ⟨h3, H2.out.2.1.trans k3' (Ext.refl _ _), k3'.own H2.out.2.2.1 (fun b hb hh => by have := H2.out.2.2.2 b hb; have hh' : b = g := hh; omega)⟩
  clear h3 k3 k3'
  go_wp2_with (at_builtin; refine app1 rfl (.tmp 14) (.tmp 21) 32 3 .i64 8 rfl Try.underlying32 info3' (by omega) (.slice A2 1 n2) [v] u rfl rfl H3.out.2.2 (by simp) ?_; intro v2 w4 ho4 hc4 hx4)
  obtain ⟨A4, n4, hv2⟩ := own_slice ho4
  rw [show ([v] ++ [u] : List Int).length = 2 from rfl] at hv2
  subst hv2
  have hge4 : Ge w.heap.size (blkOf (.slice A4 2 n4)) := Ge.ext H2.out.2.2.2 H3.out.2.1.size hx4
  have hng : ¬ blkOf (.slice A2 1 n2) g := fun hh => by have := H2.out.2.2.2 g hh; omega
  have H4 : Aside0 (w4.ownsRow 0 3 1 (.slice A4 2 n4) 2 (nums .i64 [v, u]) ∧ DecAt w0 w4 g d2 ∧ Chg w w4 (One g) ∧ Ge w.heap.size (blkOf (.slice A4 2 n4))) :=
    ⟨ho4, H3.out.1.chg hc4 hng (fun b hb => Nat.le_trans (Nat.le_trans H3.out.1.ge (Nat.le_of_lt hg)) (H2.out.2.2.2 b hb)), H3.out.2.1.trans hc4 (fun b hb => .inr (H2.out.2.2.2 b hb)), hge4⟩
  clear ho4 hc4 hx4 hge4 hng e0 e1
  try go_frame
  rw [rounds_succ]
  go_wp2_with fail
  go_returns
  exact ⟨_, rfl, H4.out⟩

set_option maxHeartbeats 2000000 in
set_option maxRecDepth 100000 in
theorem together81_calls (w0 w : World) (g pb : Nat) (d d1 d2 : D) (k l v u : Int) (h : DecAt w0 w g d) (hp : ReadsAs w0 g 81 k d d1 v) (hq : ReadsAs w0 g 80 l d1 d2 u) (hne : pb ≠ g)
    (hb : w.heap[pb]? = some (.cells #[.func (.func 81) #[] #[], .int .i64 k, .func (.func 80) #[] #[], .int .i64 l] 101 (0, 0))) :
    Calls Try.prog 79 #[.pointer (some ⟨g, 0, none⟩), .slice (some ⟨pb, 0, none⟩) 2 2] w fun r w' => ∃ z, r = .returned z ∧ w'.ownsRow 0 3 1 z 2 (nums .i64 [v, u]) ∧ DecAt w0 w' g d2 ∧ Chg w w' (One g) ∧ Ge w.heap.size (blkOf z) := by
  have HH := Aside0.mk (And.intro h (And.intro hp (And.intro hq hb)))
  have c0 : w.cell? ⟨pb, 0, none⟩ = some (.func (.func 81) #[] #[]) := blk_cell hb 0
  have c1 : w.cell? ⟨pb, 1, none⟩ = some (.int .i64 k) := blk_cell hb 1
  have hlt := blk_lt hb
  have hg := h.lt
  clear h hp hq hb
  go_enter Try.func79, Try.ntmps79
  go_wp2
  refine wp_loop_rounds 3 ?_
  rw [rounds_succ]
  go_wp2_with fail
  refine (HH.out.2.1 _ (HH.out.1.chg ((Chg.refl w No).alloc _) (fun h => h) (fun _ h => h.elim))).mono ?_
  rintro r w1 ⟨rfl, h1, k1⟩
  have H1 : Aside0 (DecAt w0 w1 g d1 ∧ Chg w w1 (One g)) := ⟨h1, ((Chg.refl w (One g)).alloc _).trans k1 (Ext.refl _ _)⟩
  clear h1 k1
  go_wp2_with (at_builtin; refine app1 rfl (.tmp 14) (.tmp 21) 32 3 .i64 8 rfl Try.underlying32 info3' (by omega) (.slice none 0 0) [] v rfl rfl (own_nil _ _ _ _) (by simp) ?_; intro v1 w2 ho2 hc2 hx2)
  obtain ⟨A2, n2, hv1⟩ := own_slice ho2
  rw [show ([] ++ [v] : List Int).length = 1 from rfl] at hv1
  subst hv1
  have hc2' : Chg w w2 (One g) := H1.out.2.trans hc2 (fun k hk => by cases hk)
  have hb2 := hc2'.blk HH.out.2.2.2 hne
  have e0 : w2.cell? ⟨pb, 2, none⟩ = some (.func (.func 80) #[] #[]) := blk_cell hb2 2
  have e1 : w2.cell? ⟨pb, 3, none⟩ = some (.int .i64 l) := blk_cell hb2 3
  have hl2 := blk_lt hb2
  have hge2 : Ge w.heap.size (blkOf (.slice A2 1 n2)) := (Ge.ext (B := w.heap.size) (f := blkOf (.slice none 0 0)) (fun k hk => by cases hk) H1.out.2.size hx2)
  have H2 : Aside0 (DecAt w0 w2 g d1 ∧ Chg w w2 (One g) ∧ w2.ownsRow 0 3 1 (.slice A2 1 n2) 1 (nums .i64 [v]) ∧ Ge w.heap.size (blkOf (.slice A2 1 n2))) :=
    ⟨H1.out.1.chg hc2 (fun hk => by cases hk) (fun k hk => by cases hk), hc2', ho2, hge2⟩
  clear ho2 hc2 hx2 hc2' hb2 hge2 c0 c1
  try go_frame
  rw [rounds_succ]
  go_wp2_with fail
  refine (HH.out.2.2.1 _ (H2.out.1.chg ((Chg.refl w2 No).alloc _) (fun h => h) (fun _ h => h.elim))).mono ?_
  rintro r w3 ⟨rfl, h3, k3⟩
  have k3' := ((Chg.refl w2 (One g)).alloc _).trans k3 (Ext.refl _ _)
  have H3 : Aside0 (DecAt w0 w3 g d2 ∧ Chg w w3 (One g) ∧ w3.ownsRow 0 3 1 (.slice A2 1 n2) 1 (nums .i64 [v])) :=
    ⟨h3, H2.out.2.1.trans k3' (Ext.refl _ _), k3'.own H2.out.2.2.1 (fun b hb hh => by have := H2.out.2.2.2 b hb; have hh' : b = g := hh; omega)⟩
  clear h3 k3 k3'
  go_wp2_with (at_builtin; refine app1 rfl (.tmp 14) (.tmp 21) 32 3 .i64 8 rfl Try.underlying32 info3' (by omega) (.slice A2 1 n2) [v] u rfl rfl H3.out.2.2 (by simp) ?_; intro v2 w4 ho4 hc4 hx4)
  obtain ⟨A4, n4, hv2⟩ := own_slice ho4
  rw [show ([v] ++ [u] : List Int).length = 2 from rfl] at hv2
  subst hv2
  have hge4 : Ge w.heap.size (blkOf (.slice A4 2 n4)) := Ge.ext H2.out.2.2.2 H3.out.2.1.size hx4
  have hng : ¬ blkOf (.slice A2 1 n2) g := fun hh => by have := H2.out.2.2.2 g hh; omega
  have H4 : Aside0 (w4.ownsRow 0 3 1 (.slice A4 2 n4) 2 (nums .i64 [v, u]) ∧ DecAt w0 w4 g d2 ∧ Chg w w4 (One g) ∧ Ge w.heap.size (blkOf (.slice A4 2 n4))) :=
    ⟨ho4, H3.out.1.chg hc4 hng (fun b hb => Nat.le_trans (Nat.le_trans H3.out.1.ge (Nat.le_of_lt hg)) (H2.out.2.2.2 b hb)), H3.out.2.1.trans hc4 (fun b hb => .inr (H2.out.2.2.2 b hb)), hge4⟩
  clear ho4 hc4 hx4 hge4 hng e0 e1
  try go_frame
  rw [rounds_succ]
  go_wp2_with fail
  go_returns
  exact ⟨_, rfl, H4.out⟩

end Go.Proofs.Ytiabenmgbikllaa.M
