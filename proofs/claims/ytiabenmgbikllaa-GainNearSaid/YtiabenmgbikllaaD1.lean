/- The reader of bits: a place is chosen and taken; symbols. Conditions: bounds on the numbers. -/
import Derived.Test.YtiabenmgbikllaaD0
namespace Go.Proofs.Ytiabenmgbikllaa.M
set_option linter.unusedVariables false
open Go.RowKit Go.Proofs.YtiabenmgbikllaaW.PrintWords Go.Proofs.YtiabenmgbikllaaW.PrintLast Go.Proofs.YtiabenmgbikllaaW.PrintMore Go.Proofs.Ytiabenmgbikllaa.PAll

/-- A reader as it stands between two calls. -/
structure DOk (d : D) : Prop extends DBase d where
  r1 : 8388608 < d.rng
  r2 : d.rng ≤ 2147483648
  v0 : 0 ≤ d.val
  v1 : d.val < d.rng
  k0 : 0 ≤ d.count
  k1 : d.count ≤ 1000000000000000000

theorem choose_range (v q ft : Int) (hq : 1 ≤ q) (hv : 0 ≤ v) (hft : 1 ≤ ft) : 0 ≤ ft - (if v / q + 1 ≤ ft then v / q + 1 else ft) ∧ ft - (if v / q + 1 ≤ ft then v / q + 1 else ft) < ft := by
  have h0 : 0 ≤ v / q := Int.ediv_nonneg hv (by omega)
  split <;> omega
/-- Where the chosen place lies below fh the code is at least so much; where it lies from fl on, below so much. -/
theorem choose_ge (v q ft fh : Int) (hq : 1 ≤ q) (hv : 0 ≤ v) (h : ft - (if v / q + 1 ≤ ft then v / q + 1 else ft) < fh) (hfh : fh ≤ ft) : q * (ft - fh) ≤ v := by
  have h0 : ft - fh ≤ v / q := by
    split at h <;> omega
  have h1 : q * (ft - fh) ≤ q * (v / q) := Int.mul_le_mul_of_nonneg_left h0 (by omega)
  have h2 : q * (v / q) ≤ v := Int.mul_ediv_self_le (by omega)
  omega
theorem choose_lt (v q ft fl : Int) (hq : 1 ≤ q) (h : fl ≤ ft - (if v / q + 1 ≤ ft then v / q + 1 else ft)) (hfl : 0 < fl) : v < q * (ft - fl) := by
  have h0 : v / q < ft - fl := by
    split at h <;> omega
  exact (Int.ediv_lt_iff_lt_mul (by omega)).1 h0 |> fun h => by rwa [Int.mul_comm] at h

theorem choose_f (d : D) (h : DOk d) (ft : Int) (f0 : 1 ≤ ft) (f1 : ft ≤ 32768) :
    rc_Dec_choose.f d.b d.rng d.val d.last d.front d.back d.window d.waiting d.count d.bad ft = some (d.choose ft, d.rng, d.val, d.last, d.front, d.back, d.window, d.waiting, d.count, d.bad) := by
  obtain ⟨p1, p2, _⟩ := take_facts d.rng ft 0 ft h.r1 h.r2 (by omega) (by omega) (by omega) f1
  have r2 := h.r2
  have v0 := h.v0
  have v1 := h.v1
  have r1 := h.r1
  unfold rc_Dec_choose.f
  rw [if_neg (by omega), Int.tdiv_eq_ediv_of_nonneg (by omega), wraps_u64 (d.rng / ft) (by omega) (by omega), if_neg (by omega), Int.tdiv_eq_ediv_of_nonneg v0]
  have a0 : 0 ≤ d.val / (d.rng / ft) := Int.ediv_nonneg v0 (by omega)
  have a1 : d.val / (d.rng / ft) ≤ d.val := Int.ediv_le_self _ v0
  rw [wraps_u64 (d.val / (d.rng / ft)) a0 (by omega), wraps_u64 (d.val / (d.rng / ft) + 1) (by omega) (by omega)]
  have e : mn (d.val / (d.rng / ft) + 1) ft = if d.val / (d.rng / ft) + 1 ≤ ft then d.val / (d.rng / ft) + 1 else ft := by
    unfold mn
    by_cases hc : ft < d.val / (d.rng / ft) + 1
    · rw [if_pos hc, if_neg (by omega)]
    · rw [if_neg hc, if_pos (by omega)]
  rw [e]
  have hr := choose_range d.val (d.rng / ft) ft p1 v0 f0
  rw [wraps_u64 _ hr.1 (by omega)]
  rfl

theorem normL_ok (j : Nat) : ∀ d : D, DBase d → d.count + 8 * j ≤ 1152921504606846976 → 1 ≤ d.rng → d.rng ≤ 2147483648 → 0 ≤ d.val → d.val < d.rng → 8388608 < d.rng * 256 ^ j →
    DBase (D.normL j d) ∧ 8388608 < (D.normL j d).rng ∧ (D.normL j d).rng ≤ 2147483648 ∧ 0 ≤ (D.normL j d).val ∧ (D.normL j d).val < (D.normL j d).rng ∧ d.count ≤ (D.normL j d).count ∧ (D.normL j d).count ≤ d.count + 8 * j := by
  induction j with
  | zero => intro d h hc r1 r2 v0 v1 hr; exact ⟨h, by simp at hr; exact hr, r2, v0, v1, Int.le_refl _, by show d.count ≤ d.count + 8 * 0; omega⟩
  | succ j ih =>
    intro d h hc r1 r2 v0 v1 hr
    by_cases hs : d.rng ≤ 8388608
    · have hd : D.normL (j + 1) d = D.normL j d.step := by show (if _ then _ else _) = _; rw [if_pos hs]
      have hv := d.nextV_range h
      rw [hd]
      have l0 := h.l0
      have l1 := h.l1
      obtain ⟨i1, i2, i3, i4, i5, i6, i7⟩ := ih d.step (d.step_base h (by omega)) (by show d.count + 8 + 8 * (j : Int) ≤ _; omega) (by show 1 ≤ d.rng * 256; omega) (by show d.rng * 256 ≤ _; omega) (by show 0 ≤ (_ : Int) % 2147483648; omega)
        (by show (d.val * 256 + 255 - (d.last * 256 + d.nextV) / 2 % 256) % 2147483648 < d.rng * 256; omega) (by show 8388608 < d.rng * 256 * 256 ^ j; rw [Int.mul_assoc, ← Int.pow_succ']; exact hr)
      have ec : d.step.count = d.count + 8 := rfl
      exact ⟨i1, i2, i3, i4, i5, by omega, by omega⟩
    · have hd : D.normL (j + 1) d = d := by show (if _ then _ else _) = _; rw [if_neg hs]
      rw [hd]
      exact ⟨h, by omega, r2, v0, v1, Int.le_refl _, by omega⟩

/-- A place is taken that is among those chosen. -/
structure InPlace (d : D) (fl fh ft : Int) : Prop where
  a0 : 0 ≤ fl
  a1 : fl < fh
  a2 : fh ≤ ft
  a3 : ft ≤ 32768
  lo : fl ≤ d.choose ft
  hi : d.choose ft < fh
theorem take0_ok (d : D) (h : DOk d) (fl fh ft : Int) (hp : InPlace d fl fh ft) :
    1 ≤ (d.take0 fl fh ft).rng ∧ (d.take0 fl fh ft).rng ≤ 2147483648 ∧ 0 ≤ (d.take0 fl fh ft).val ∧ (d.take0 fl fh ft).val < (d.take0 fl fh ft).rng ∧ DBase (d.take0 fl fh ft) := by
  obtain ⟨a0, a1, a2, a3, lo, hi⟩ := hp
  obtain ⟨p1, p2, p3, p4, p5, p6, p7, p8, p9⟩ := take_facts d.rng ft fl fh h.r1 h.r2 a0 a1 a2 a3
  have r2 := h.r2
  have v0 := h.v0
  have v1 := h.v1
  have g1 := choose_ge d.val (d.rng / ft) ft fh p1 v0 hi a2
  have hb : DBase (d.take0 fl fh ft) := ⟨h.bytes, h.len, h.l0, h.l1, h.f0, h.f1, h.c0, h.c1⟩
  by_cases hfl : 0 < fl
  · have g2 := choose_lt d.val (d.rng / ft) ft fl p1 lo hfl
    have er : (d.take0 fl fh ft).rng = d.rng / ft * (fh - fl) := by show (if _ then _ else _) = _; rw [if_pos hfl]
    have ev : (d.take0 fl fh ft).val = d.val - d.rng / ft * (ft - fh) := rfl
    have e2 : d.rng / ft * (ft - fl) = d.rng / ft * (ft - fh) + d.rng / ft * (fh - fl) := by rw [← Int.mul_add]; congr 1; omega
    rw [er, ev]
    refine ⟨by omega, by omega, by omega, by omega, hb⟩
  · have er : (d.take0 fl fh ft).rng = d.rng - d.rng / ft * (ft - fh) := by show (if _ then _ else _) = _; rw [if_neg hfl]
    have ev : (d.take0 fl fh ft).val = d.val - d.rng / ft * (ft - fh) := rfl
    rw [er, ev]
    refine ⟨by omega, by omega, by omega, by omega, hb⟩
theorem take_ok (d : D) (h : DOk d) (fl fh ft : Int) (hp : InPlace d fl fh ft) (hc : d.count ≤ 900000000000000000) : DOk (d.take fl fh ft) ∧ (d.take fl fh ft).count ≤ d.count + 24 ∧ (d.take fl fh ft).b = d.b := by
  obtain ⟨t1, t2, t3, t4, t5⟩ := take0_ok d h fl fh ft hp
  have ec : (d.take0 fl fh ft).count = d.count := rfl
  have k0 := h.k0
  obtain ⟨i1, i2, i3, i4, i5, i6, i7⟩ := normL_ok 3 (d.take0 fl fh ft) t5 (by omega) t1 t2 t3 t4 (by omega)
  refine ⟨⟨i1, i2, i3, i4, i5, ?_, ?_⟩, ?_, ?_⟩
  · show 0 ≤ (D.normL 3 (d.take0 fl fh ft)).count; omega
  · show (D.normL 3 (d.take0 fl fh ft)).count ≤ _; omega
  · show (D.normL 3 (d.take0 fl fh ft)).count ≤ _; omega
  · have : ∀ j e, (D.normL j e).b = e.b := by
      intro j
      induction j with
      | zero => intro e; rfl
      | succ j ih => intro e; show (if _ then _ else _ : D).b = _; split <;> first | (rw [ih]; rfl) | rfl
    exact this 3 _
theorem take_f (d : D) (h : DOk d) (fl fh ft : Int) (hp : InPlace d fl fh ft) (hc : d.count ≤ 900000000000000000) (k : Nat) (hk : 3 < k) :
    rc_Dec_take.f k d.b d.rng d.val d.last d.front d.back d.window d.waiting d.count d.bad fl fh ft = some (d.take fl fh ft).tup := by
  obtain ⟨t1, t2, t3, t4, t5⟩ := take0_ok d h fl fh ft hp
  obtain ⟨a0, a1, a2, a3, lo, hi⟩ := hp
  obtain ⟨p1, p2, p3, p4, p5, p6, p7, p8, p9⟩ := take_facts d.rng ft fl fh h.r1 h.r2 a0 a1 a2 a3
  have r2 := h.r2
  have v0 := h.v0
  have v1 := h.v1
  have g1 := choose_ge d.val (d.rng / ft) ft fh p1 v0 hi a2
  have hn := norm_l 3 k (d.take0 fl fh ft) t5 (by show d.count + _ ≤ _; omega) t1 t2 t3 (by omega) (by omega) hk
  unfold rc_Dec_take.f
  have r1 := h.r1
  rw [if_neg (by omega), Int.tdiv_eq_ediv_of_nonneg (by omega), wraps_u64 (d.rng / ft) (by omega) (by omega), wraps_u64 (ft - fh) (by omega) (by omega), wraps_u64 (d.rng / ft * (ft - fh)) (by omega) (by omega),
    wraps_u64 (d.val - d.rng / ft * (ft - fh)) (by omega) (by omega)]
  have ev : (d.take0 fl fh ft).val = d.val - d.rng / ft * (ft - fh) := rfl
  by_cases hfl : 0 < fl
  · have er : (d.take0 fl fh ft).rng = d.rng / ft * (fh - fl) := by show (if _ then _ else _) = _; rw [if_pos hfl]
    rw [er, ev] at hn
    rw [if_pos (by omega), wraps_u64 (fh - fl) (by omega) (by omega), wraps_u64 (d.rng / ft * (fh - fl)) (by omega) (by omega)]
    unfold rc_Dec_normalise.f
    rw [show rc_Dec_normalise.l0 k d.b (d.rng / ft * (fh - fl)) (d.val - d.rng / ft * (ft - fh)) d.last d.front d.back d.window d.waiting d.count d.bad = _ from hn]
    rfl
  · have er : (d.take0 fl fh ft).rng = d.rng - d.rng / ft * (ft - fh) := by show (if _ then _ else _) = _; rw [if_neg hfl]
    rw [er, ev] at hn
    rw [if_neg (by omega), wraps_u64 (d.rng - d.rng / ft * (ft - fh)) (by omega) (by omega)]
    unfold rc_Dec_normalise.f
    rw [show rc_Dec_normalise.l0 k d.b (d.rng - d.rng / ft * (ft - fh)) (d.val - d.rng / ft * (ft - fh)) d.last d.front d.back d.window d.waiting d.count d.bad = _ from hn]
    rfl

/-- Where a symbol stands: the first whose number is below. -/
theorem symIdx_at (f : Int) : ∀ (t : List Int) (h : symIdx t f < t.length), f < 256 - t[symIdx t f] ∧ ∀ j : Nat, (hj : j < symIdx t f) → 256 - t[j]'(by omega) ≤ f
  | [], h => absurd h (by simp)
  | x :: l, h => by
    unfold symIdx at h ⊢
    by_cases hx : f ≥ 256 - x
    · simp only [if_pos hx] at h ⊢
      have hl : symIdx l f < l.length := by simpa using h
      obtain ⟨i1, i2⟩ := symIdx_at f l hl
      refine ⟨by simpa using i1, fun j hj => ?_⟩
      match j, hj with
      | 0, _ => simpa using hx
      | j + 1, hj => simpa using i2 j (by omega)
    · simp only [if_neg hx] at h ⊢
      exact ⟨by simp; omega, fun j hj => absurd hj (by omega)⟩
theorem symIdx_lt (f : Int) (f1 : f < 256) : ∀ (t : List Int), (hn : 0 < t.length) → t.getD (t.length - 1) 0 = 0 → symIdx t f < t.length
  | [x], _, h => by
    have hx : x = 0 := by simpa using h
    unfold symIdx
    rw [if_neg (by omega)]
    simp
  | x :: y :: l, _, h => by
    have ih := symIdx_lt f f1 (y :: l) (by simp) (by simpa using h)
    unfold symIdx
    split
    · simp only [List.length_cons] at ih ⊢; omega
    · simp
theorem sym_place (d : D) (h : DOk d) (t : List Int) (ht : TabOk t) (hn : 0 < t.length) : symIdx t (d.choose 256) < t.length ∧ InPlace d (symLo t (d.symV t)) (symHi t (d.symV t)) 256 := by
  obtain ⟨p1, _⟩ := take_facts d.rng 256 0 256 h.r1 h.r2 (by omega) (by omega) (by omega) (by omega)
  have hf := choose_range d.val (d.rng / 256) 256 p1 h.v0 (by omega)
  have hK := symIdx_lt (d.choose 256) hf.2 t hn ht.last
  obtain ⟨s1, s2⟩ := symIdx_at (d.choose 256) t hK
  obtain ⟨q1, q2, q3⟩ := ht.place (d.symV t) (Int.natCast_nonneg _) (by unfold D.symV; omega)
  have e1 : rd t (d.symV t) = t[symIdx t (d.choose 256)] := by simp [rd, D.symV, hK]
  refine ⟨hK, q1, q2, q3, by omega, ?_, ?_⟩
  · unfold symLo
    split
    · rename_i hs
      have hs' : 0 < symIdx t (d.choose 256) := by unfold D.symV at hs; omega
      have := s2 (symIdx t (d.choose 256) - 1) (by omega)
      have e2 : rd t (d.symV t - 1) = t[symIdx t (d.choose 256) - 1]'(by omega) := by
        have e3 : (d.symV t - 1).toNat = symIdx t (d.choose 256) - 1 := by unfold D.symV; omega
        have hlt : symIdx t (d.choose 256) - 1 < t.length := by omega
        simp [rd, e3, hlt]
      rw [e2]
      exact this
    · exact hf.1
  · unfold symHi
    rw [e1]
    exact s1
theorem sym_l (d : D) (h : DOk d) (t : List Int) (ht : TabOk t) (hn : 0 < t.length) (hc : d.count ≤ 900000000000000000) (m : Nat) : ∀ (k i : Nat), i + m = symIdx t (d.choose 256) → m + 4 < k →
    rc_Dec_Symbol.l0 k t (d.choose 256) i (if 0 < i then 256 - rd t ((i : Int) - 1) else 0) d.b d.rng d.val d.last d.front d.back d.window d.waiting d.count d.bad =
      some (d.symV t, (d.sym t).rng, (d.sym t).val, (d.sym t).last, (d.sym t).front, (d.sym t).back, (d.sym t).window, (d.sym t).waiting, (d.sym t).count, (d.sym t).bad) := by
  obtain ⟨hK, hp⟩ := sym_place d h t ht hn
  obtain ⟨s1, s2⟩ := symIdx_at (d.choose 256) t hK
  have hlen := ht.len
  induction m with
  | zero =>
    intro k i hi hk
    obtain ⟨k, rfl⟩ : ∃ m, k = m + 1 := ⟨k - 1, by omega⟩
    have hi' : (i : Int) = d.symV t := by unfold D.symV; omega
    have hr := ht.rd_range i (by omega) (by omega)
    have e1 : rd t (i : Int) = t[symIdx t (d.choose 256)] := by rw [hi']; simp [rd, D.symV, hK]
    have ew : wrap64 (256 - rd t (i : Int)) = 256 - rd t (i : Int) := by unfold wrap64; omega
    simp only [rc_Dec_Symbol.l0]
    rw [if_pos (by omega), if_pos (by omega), ew, if_neg (by rw [e1]; omega)]
    have elo : (if 0 < i then 256 - rd t ((i : Int) - 1) else 0) = symLo t (d.symV t) := by
      unfold symLo
      rw [← hi']
      by_cases h0 : 0 < i
      · rw [if_pos h0, if_pos (by omega)]
      · rw [if_neg h0, if_neg (by omega)]
    have ehi : 256 - rd t (i : Int) = symHi t (d.symV t) := by unfold symHi; rw [hi']
    have p0 := hp.a0
    have p1 := hp.a1
    have p2 := hp.a2
    rw [elo, ehi, wraps_u64 _ p0 (by omega), wraps_u64 _ (by omega) (by omega), take_f d h _ _ 256 hp hc k (by omega), hi']
    rfl
  | succ m ih =>
    intro k i hi hk
    obtain ⟨k, rfl⟩ : ∃ m, k = m + 1 := ⟨k - 1, by omega⟩
    have hr := ht.rd_range i (by omega) (by omega)
    have ew : wrap64 (256 - rd t (i : Int)) = 256 - rd t (i : Int) := by unfold wrap64; omega
    have hlt : i < t.length := by omega
    have e1 : rd t (i : Int) = t[i] := by simp [rd, hlt]
    simp only [rc_Dec_Symbol.l0]
    rw [if_pos (by omega), if_pos (by omega), ew, if_pos (by rw [e1]; exact s2 i (by omega)), show wrap64 ((i : Int) + 1) = ((i + 1 : Nat) : Int) from by unfold wrap64; omega]
    have := ih k (i + 1) (by omega) (by omega)
    rw [if_pos (by omega)] at this
    rw [show (((i + 1 : Nat) : Int) - 1) = (i : Int) from by omega] at this
    exact this
theorem sym_f (d : D) (h : DOk d) (t : List Int) (ht : TabOk t) (hn : 0 < t.length) (hc : d.count ≤ 900000000000000000) :
    rc_Dec_Symbol.f 300 d.b d.rng d.val d.last d.front d.back d.window d.waiting d.count d.bad t =
      some (d.symV t, (d.sym t).rng, (d.sym t).val, (d.sym t).last, (d.sym t).front, (d.sym t).back, (d.sym t).window, (d.sym t).waiting, (d.sym t).count, (d.sym t).bad) := by
  obtain ⟨hK, hp⟩ := sym_place d h t ht hn
  obtain ⟨p1, _⟩ := take_facts d.rng 256 0 256 h.r1 h.r2 (by omega) (by omega) (by omega) (by omega)
  have hf := choose_range d.val (d.rng / 256) 256 p1 h.v0 (by omega)
  have hlen := ht.len
  unfold rc_Dec_Symbol.f
  rw [ht.good]
  simp only [Option.bind_some, if_true]
  rw [choose_f d h 256 (by omega) (by omega)]
  simp only [Option.bind_some]
  have hw : wrap64 (d.choose 256) = d.choose 256 := by
    have h1 : 0 ≤ d.choose 256 := hf.1
    have h2 : d.choose 256 < 256 := hf.2
    unfold wrap64; omega
  rw [hw]
  have := sym_l d h t ht hn hc (symIdx t (d.choose 256)) 300 0 (by omega) (by omega)
  simpa using this
theorem sym_ok (d : D) (h : DOk d) (t : List Int) (ht : TabOk t) (hn : 0 < t.length) (hc : d.count ≤ 900000000000000000) : DOk (d.sym t) ∧ (d.sym t).count ≤ d.count + 24 ∧ (d.sym t).b = d.b ∧ 0 ≤ d.symV t ∧ d.symV t < t.length := by
  obtain ⟨hK, hp⟩ := sym_place d h t ht hn
  obtain ⟨a, b, c⟩ := take_ok d h _ _ 256 hp hc
  exact ⟨a, b, c, Int.natCast_nonneg _, by unfold D.symV; omega⟩
end Go.Proofs.Ytiabenmgbikllaa.M
