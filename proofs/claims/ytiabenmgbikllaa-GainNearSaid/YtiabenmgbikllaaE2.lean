/- The writer of bits: one step of the range (take), symbols. Conditions: bounds on the numbers. -/
import Derived.Test.YtiabenmgbikllaaE1
namespace Go.Proofs.Ytiabenmgbikllaa.M
open Go.RowKit Go.Proofs.YtiabenmgbikllaaW.PrintWords Go.Proofs.YtiabenmgbikllaaW.PrintLast Go.Proofs.YtiabenmgbikllaaW.PrintMore
attribute [local go_sem] max2_int min2_int max_two min_two max_three min_three max_four min_four

def take0 (e : E) (fl fh ft : Int) : E :=
  if 0 < fl then { e with val := e.val + (e.rng - e.rng / ft * (ft - fl)), rng := e.rng / ft * (fh - fl) }
  else { e with rng := e.rng - e.rng / ft * (ft - fh) }
def E.take (e : E) (fl fh ft : Int) : E := norm (take0 e fl fh ft)
/-- A writer as it stands between two calls. -/
structure EOk (e : E) : Prop where
  r1 : 8388608 < e.rng
  r2 : e.rng ≤ 2147483648
  v0 : 0 ≤ e.val
  v1 : e.val ≤ 2147483647
  n : e.told.length ≤ 100000000000
  c0 : 0 ≤ e.count
  c1 : e.count ≤ 100000000000000000

theorem take_facts (r ft fl fh : Int) (r1 : 8388608 < r) (r2 : r ≤ 2147483648) (h0 : 0 ≤ fl) (h1 : fl < fh) (h2 : fh ≤ ft) (h3 : ft ≤ 32768) :
    1 ≤ r / ft ∧ r / ft ≤ r ∧ 0 ≤ r / ft * (ft - fl) ∧ r / ft * (ft - fl) ≤ r ∧ 1 ≤ r / ft * (fh - fl) ∧ r / ft * (fh - fl) ≤ r ∧ 0 ≤ r / ft * (ft - fh) ∧ r / ft * (ft - fh) < r ∧ (r - r / ft * (ft - fl)) + r / ft * (fh - fl) ≤ r := by
  have hft : 0 < ft := by omega
  have hq1 : 1 ≤ r / ft := by
    rw [Int.le_ediv_iff_mul_le hft]; omega
  have hqr : r / ft * ft ≤ r := Int.ediv_mul_le r (by omega)
  have a1 : r / ft * (ft - fl) ≤ r / ft * ft := Int.mul_le_mul_of_nonneg_left (by omega) (by omega)
  have a2 : 0 ≤ r / ft * (ft - fl) := Int.mul_nonneg (by omega) (by omega)
  have a3 : r / ft * 1 ≤ r / ft * (fh - fl) := Int.mul_le_mul_of_nonneg_left (by omega) (by omega)
  have a4 : r / ft * (fh - fl) ≤ r / ft * (ft - fl) := Int.mul_le_mul_of_nonneg_left (by omega) (by omega)
  have a5 : 0 ≤ r / ft * (ft - fh) := Int.mul_nonneg (by omega) (by omega)
  have a6 : r / ft * (ft - fh) ≤ r / ft * (ft - 1) := Int.mul_le_mul_of_nonneg_left (by omega) (by omega)
  have a7 : r / ft * (ft - 1) = r / ft * ft - r / ft := by rw [Int.mul_sub, Int.mul_one]
  have a8 : r / ft ≤ r := Int.ediv_le_self _ (by omega)
  refine ⟨hq1, a8, a2, ?_, ?_, ?_, a5, ?_, ?_⟩ <;> omega

set_option maxHeartbeats 1000000 in
set_option maxRecDepth 100000 in
theorem etake_calls (w : World) (f : Nat → Prop) (g : Nat) (e : E) (fl fh ft : Int) (h : EncAt w f g e) (hk : EOk e) (h0 : 0 ≤ fl) (h1 : fl < fh) (h2 : fh ≤ ft) (h3 : ft ≤ 32768) :
    Calls Try.prog 129 #[.pointer (some ⟨g, 0, none⟩), .int .u64 fl, .int .u64 fh, .int .u64 ft] w fun r w' => r = .returned (.tuple #[]) ∧ ∃ f', EncAt w' f' g (e.take fl fh ft) ∧ Chg w w' f ∧ Ext w f f' := by
  obtain ⟨vt, vr, h⟩ := h
  obtain ⟨r1, r2, v0, v1, hn, c0, c1⟩ := hk
  have HE := Aside0.mk h
  have k1 := h.c1
  have k2 := h.c2
  have z1 := h.fz 1
  have z2 := h.fz 2
  have hf := h.hg
  have HF := Aside0.mk hf
  clear h hf
  obtain ⟨p1, p2, p3, p4, p5, p6, p7, p8, p9⟩ := take_facts e.rng ft fl fh r1 r2 h0 h1 h2 h3
  by_cases hfl : 0 < fl
  · have w1 : IntKind.u64.wrap (ft - fl) = ft - fl := wraps_u64 _ (by omega) (by omega)
    have w2 : IntKind.u64.wrap (e.rng / ft * (ft - fl)) = e.rng / ft * (ft - fl) := wraps_u64 _ (by omega) (by omega)
    have w3 : IntKind.u64.wrap (e.rng - e.rng / ft * (ft - fl)) = e.rng - e.rng / ft * (ft - fl) := wraps_u64 _ (by omega) (by omega)
    have w4 : IntKind.u64.wrap (e.val + (e.rng - e.rng / ft * (ft - fl))) = e.val + (e.rng - e.rng / ft * (ft - fl)) := wraps_u64 _ (by omega) (by omega)
    go_enter Try.func129, Try.ntmps129
    go_wp2
    go_region
    all_goals
      go_wp2_with fail
      have HC : EncAt ((w.setCell ⟨g, 1, none⟩ (.int .u64 (e.val + (e.rng - e.rng / ft * (ft - fl))))).setCell ⟨g, 2, none⟩ (.int .u64 (e.rng / ft * (fh - fl)))).drew f g (take0 e fl fh ft) := by
        rw [take0, if_pos hfl]
        exact ⟨vt, vr, ((HE.out.pval _).prng _).drew⟩
      have ec : (take0 e fl fh ft).count = e.count := by rw [take0, if_pos hfl]
      have et : (take0 e fl fh ft).told = e.told := by rw [take0, if_pos hfl]
      have er : (take0 e fl fh ft).rng = e.rng / ft * (fh - fl) := by rw [take0, if_pos hfl]
      have ev : (take0 e fl fh ft).val = e.val + (e.rng - e.rng / ft * (ft - fl)) := by rw [take0, if_pos hfl]
      refine (normalise_calls _ f g _ HC (by rw [er]; omega) (by rw [er]; omega) (by rw [ev]; omega) (by rw [ev]; omega) (by rw [et]; omega) (by rw [ec]; omega) (by rw [ec]; omega)).mono ?_
      rintro r w1 ⟨rfl, f', hE, hc, hx⟩
      have HP : Aside0 (∃ f', EncAt w1 f' g (e.take fl fh ft) ∧ Chg w w1 f ∧ Ext w f f') := ⟨⟨f', hE, ((((Chg.refl w f).setCell (.inl HF.out) _).setCell (.inl HF.out) _).drew).trans hc (Ext.refl _ _), hx.le (by simp [World.setCell])⟩⟩
      clear hE hc hx HC ec et er ev
      go_wp2
      go_returns
      exact ⟨rfl, HP.out⟩
  · go_enter Try.func129, Try.ntmps129
    go_wp2_with fail
    have HC : EncAt (w.setCell ⟨g, 2, none⟩ (.int .u64 (e.rng - e.rng / ft * (ft - fh)))) f g (take0 e fl fh ft) := by
      rw [take0, if_neg (by omega)]
      exact ⟨vt, vr, HE.out.prng _⟩
    have ec : (take0 e fl fh ft).count = e.count := by rw [take0, if_neg (by omega)]
    have et : (take0 e fl fh ft).told = e.told := by rw [take0, if_neg (by omega)]
    have er : (take0 e fl fh ft).rng = e.rng - e.rng / ft * (ft - fh) := by rw [take0, if_neg (by omega)]
    have ev : (take0 e fl fh ft).val = e.val := by rw [take0, if_neg (by omega)]
    refine (normalise_calls _ f g _ HC (by rw [er]; omega) (by rw [er]; omega) (by rw [ev]; omega) (by rw [ev]; omega) (by rw [et]; omega) (by rw [ec]; omega) (by rw [ec]; omega)).mono ?_
    rintro r w1 ⟨rfl, f', hE, hc, hx⟩
    have HP : Aside0 (∃ f', EncAt w1 f' g (e.take fl fh ft) ∧ Chg w w1 f ∧ Ext w f f') := ⟨⟨f', hE, ((Chg.refl w f).setCell (.inl HF.out) _).trans hc (Ext.refl _ _), hx.le (by simp [World.setCell])⟩⟩
    clear hE hc hx HC ec et er ev
    go_wp2
    go_returns
    exact ⟨rfl, HP.out⟩
end Go.Proofs.Ytiabenmgbikllaa.M
