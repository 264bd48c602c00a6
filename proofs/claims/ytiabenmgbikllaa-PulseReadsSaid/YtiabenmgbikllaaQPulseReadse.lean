/- Contracts of the program's functions and plain laws for the law PulseReads, several texts in one (part 5); the program's functions as Lean functions came out of the kit's print. Conditions: each theorem's own. -/
import Derived.Test.YtiabenmgbikllaaQPulseReadsd
-- F0
namespace Go.Proofs.Ytiabenmgbikllaa.M
set_option linter.unusedVariables false
open Go.RowKit Go.Proofs.YtiabenmgbikllaaW.PrintWords Go.Proofs.YtiabenmgbikllaaW.PrintLast Go.Proofs.YtiabenmgbikllaaW.PrintMore Go.Proofs.Ytiabenmgbikllaa.PAll

/-- The parts of the document's reader that a printed function hands back. -/
def D.tup3 (d : D) (e : Int) : Int × Int × Int × Int × Int × Int × Int × Int × Bool × Int := (d.rng, d.val, d.last, d.front, d.back, d.window, d.waiting, d.count, d.bad, e)
theorem next3_f (d : D) (h : DBase d) (r c e : Int) :
    madrigalref3_Dec_next.f d.b r d.val d.last d.front d.back d.window d.waiting c d.bad e = some (d.nextV, r, d.val, d.last, d.nextF, d.back, d.window, d.waiting, c, d.bad, e) := by
  have hf := h.f0
  have hl := h.len
  unfold madrigalref3_Dec_next.f D.nextV D.nextF
  by_cases hc : d.front ≥ d.b.length
  · rw [if_pos hc, if_pos hc, if_pos hc]
  · rw [if_neg hc, if_neg hc, if_neg hc]
    have e1 : wrap64 (d.front + 1) = d.front + 1 := by unfold wrap64; omega
    have e2 : wrap64 (d.front + 1 - 1) = d.front := by unfold wrap64; omega
    rw [e1, e2, if_pos hf, if_pos (by omega)]
    have hb := h.bytes.at_ d.front hf (by omega)
    rw [show wrap64 (rd d.b d.front) = rd d.b d.front from by unfold wrap64; omega]
theorem val3_f (v l x : Int) (hv0 : 0 ≤ v) (hv : v < 2147483648) (hl0 : 0 ≤ l) (hl : l < 256) (hx0 : 0 ≤ x) (hx : x < 256) :
    Int.tmod (IntKind.u64.wrap ((IntKind.u64.wrap (256 * v)) + (IntKind.u64.wrap (wrap64 (255 - (Int.tmod (wrap64 (Int.tdiv (wrap64 ((wrap64 (256 * l)) + x)) 2)) 256)))))) 2147483648 = (v * 256 + 255 - (l * 256 + x) / 2 % 256) % 2147483648 := by
  rw [wraps_u64 (256 * v) (by omega) (by omega), show wrap64 (256 * l) = 256 * l from by unfold wrap64; omega, show wrap64 (256 * l + x) = 256 * l + x from by unfold wrap64; omega,
    Int.tdiv_eq_ediv_of_nonneg (by omega), show wrap64 ((256 * l + x) / 2) = (256 * l + x) / 2 from by unfold wrap64; omega, Int.tmod_eq_emod_of_nonneg (a := (256 * l + x) / 2) (by omega),
    show wrap64 (255 - (256 * l + x) / 2 % 256) = 255 - (256 * l + x) / 2 % 256 from by unfold wrap64; omega, wraps_u64 (255 - (256 * l + x) / 2 % 256) (by omega) (by omega), wraps_u64 _ (by omega) (by omega), Int.tmod_eq_emod_of_nonneg (by omega)]
  congr 1
  rw [Int.mul_comm 256 v, Int.mul_comm 256 l]
  omega
theorem norm3_l (e : Int) (j : Nat) : ∀ (k : Nat) (d : D), DBase d → d.count + 8 * j ≤ 1152921504606846976 → 1 ≤ d.rng → d.rng ≤ 2147483648 → 0 ≤ d.val → d.val < 2147483648 → 8388608 < d.rng * 256 ^ j → j < k →
    madrigalref3_Dec_on.l0 k d.b d.rng d.val d.last d.front d.back d.window d.waiting d.count d.bad e = some ((D.normL j d).tup3 e) := by
  induction j with
  | zero =>
    intro k d h hc r1 r2 v0 v1 hr hk
    obtain ⟨k, rfl⟩ : ∃ m, k = m + 1 := ⟨k - 1, by omega⟩
    simp only [madrigalref3_Dec_on.l0]
    rw [if_neg (by simp at hr; omega)]
    rfl
  | succ j ih =>
    intro k d h hc r1 r2 v0 v1 hr hk
    obtain ⟨k, rfl⟩ : ∃ m, k = m + 1 := ⟨k - 1, by omega⟩
    simp only [madrigalref3_Dec_on.l0]
    by_cases hs : d.rng ≤ 8388608
    · have hv := d.nextV_range h
      rw [if_pos hs, wraps_u64 (d.rng * 256) (by omega) (by omega), show wrap64 (d.count + 8) = d.count + 8 from by have := h.c0; unfold wrap64; omega, next3_f d h]
      simp only [Option.bind_some]
      rw [val3_f d.val d.last d.nextV v0 v1 h.l0 h.l1 hv.1 hv.2]
      have hd : D.normL (j + 1) d = D.normL j d.step := by show (if _ then _ else _) = _; rw [if_pos hs]
      rw [hd]
      refine ih k d.step (d.step_base h (by omega)) ?_ ?_ ?_ ?_ ?_ ?_ (by omega)
      · show d.count + 8 + 8 * (j : Int) ≤ _; omega
      · show 1 ≤ d.rng * 256; omega
      · show d.rng * 256 ≤ _; omega
      · show 0 ≤ (_ : Int) % 2147483648; omega
      · show (_ : Int) % 2147483648 < _; omega
      · show 8388608 < d.rng * 256 * 256 ^ j; rw [Int.mul_assoc, ← Int.pow_succ']; exact hr
    · have hd : D.normL (j + 1) d = d := by show (if _ then _ else _) = _; rw [if_neg hs]
      rw [if_neg hs, hd]
      rfl
theorem choose3_f (d : D) (h : DOk d) (e ft : Int) (f0 : 1 ≤ ft) (f1 : ft ≤ 32768) :
    madrigalref3_Dec_choose.f d.b d.rng d.val d.last d.front d.back d.window d.waiting d.count d.bad e ft = some (d.choose ft, d.rng, d.val, d.last, d.front, d.back, d.window, d.waiting, d.count, d.bad, d.rng / ft) := by
  obtain ⟨p1, p2, _⟩ := take_facts d.rng ft 0 ft h.r1 h.r2 (by omega) (by omega) (by omega) f1
  have r2 := h.r2
  have v0 := h.v0
  have v1 := h.v1
  have r1 := h.r1
  unfold madrigalref3_Dec_choose.f D.choose
  rw [if_neg (by omega), Int.tdiv_eq_ediv_of_nonneg (by omega), wraps_u64 (d.rng / ft) (by omega) (by omega), if_neg (by omega), Int.tdiv_eq_ediv_of_nonneg v0]
  have a0 : 0 ≤ d.val / (d.rng / ft) := Int.ediv_nonneg v0 (by omega)
  have a1 : d.val / (d.rng / ft) ≤ d.val := Int.ediv_le_self _ v0
  rw [wraps_u64 (d.val / (d.rng / ft)) a0 (by omega), wraps_u64 (d.val / (d.rng / ft) + 1) (by omega) (by omega)]
  by_cases hc : d.val / (d.rng / ft) + 1 > ft
  · rw [if_pos hc, if_neg (by omega), wraps_u64 (ft - ft) (by omega) (by omega)]
  · rw [if_neg hc, if_pos (by omega), wraps_u64 _ (by omega) (by omega)]
theorem take3_f (d : D) (h : DOk d) (fl fh ft : Int) (hp : InPlace d fl fh ft) (hc : d.count ≤ 900000000000000000) (k : Nat) (hk : 3 < k) :
    madrigalref3_Dec_take.f k d.b d.rng d.val d.last d.front d.back d.window d.waiting d.count d.bad (d.rng / ft) fl fh ft = some ((d.take fl fh ft).tup3 (d.rng / ft)) := by
  obtain ⟨t1, t2, t3, t4, t5⟩ := take0_ok d h fl fh ft hp
  obtain ⟨a0, a1, a2, a3, lo, hi⟩ := hp
  obtain ⟨p1, p2, p3, p4, p5, p6, p7, p8, p9⟩ := take_facts d.rng ft fl fh h.r1 h.r2 a0 a1 a2 a3
  have r2 := h.r2
  have v0 := h.v0
  have v1 := h.v1
  have g1 := choose_ge d.val (d.rng / ft) ft fh p1 v0 hi a2
  have hn := norm3_l (d.rng / ft) 3 k (d.take0 fl fh ft) t5 (by show d.count + _ ≤ _; omega) t1 t2 t3 (by omega) (by omega) hk
  unfold madrigalref3_Dec_take.f
  have r1 := h.r1
  rw [wraps_u64 (ft - fh) (by omega) (by omega), wraps_u64 (d.rng / ft * (ft - fh)) (by omega) (by omega),
    wraps_u64 (d.val - d.rng / ft * (ft - fh)) (by omega) (by omega)]
  have ev : (d.take0 fl fh ft).val = d.val - d.rng / ft * (ft - fh) := rfl
  by_cases hfl : 0 < fl
  · have er : (d.take0 fl fh ft).rng = d.rng / ft * (fh - fl) := by show (if _ then _ else _) = _; rw [if_pos hfl]
    rw [er, ev] at hn
    rw [if_pos (by omega), wraps_u64 (fh - fl) (by omega) (by omega), wraps_u64 (d.rng / ft * (fh - fl)) (by omega) (by omega)]
    unfold madrigalref3_Dec_on.f
    rw [show madrigalref3_Dec_on.l0 k d.b (d.rng / ft * (fh - fl)) (d.val - d.rng / ft * (ft - fh)) d.last d.front d.back d.window d.waiting d.count d.bad (d.rng / ft) = _ from hn]
    rfl
  · have er : (d.take0 fl fh ft).rng = d.rng - d.rng / ft * (ft - fh) := by show (if _ then _ else _) = _; rw [if_neg hfl]
    rw [er, ev] at hn
    rw [if_neg (by omega), wraps_u64 (d.rng - d.rng / ft * (ft - fh)) (by omega) (by omega)]
    unfold madrigalref3_Dec_on.f
    rw [show madrigalref3_Dec_on.l0 k d.b (d.rng - d.rng / ft * (ft - fh)) (d.val - d.rng / ft * (ft - fh)) d.last d.front d.back d.window d.waiting d.count d.bad (d.rng / ft) = _ from hn]
    rfl
/-- The parts with what is told ahead. -/
def D.told3 (d : D) (x e : Int) : Int × Int × Int × Int × Int × Int × Int × Int × Int × Bool × Int := (x, d.rng, d.val, d.last, d.front, d.back, d.window, d.waiting, d.count, d.bad, e)
theorem sym3_l (d : D) (h : DOk d) (t : List Int) (ht : TabOk t) (hn : 0 < t.length) (hc : d.count ≤ 900000000000000000) (m : Nat) : ∀ (k i : Nat), i + m = symIdx t (d.choose 256) → m + 4 < k →
    madrigalref3_Dec_Symbol.l0 k t (d.choose 256) i (if 0 < i then rd t ((i : Int) - 1) else 256) d.b d.rng d.val d.last d.front d.back d.window d.waiting d.count d.bad (d.rng / 256) =
      some ((d.sym t).told3 (d.symV t) (d.rng / 256)) := by
  obtain ⟨hK, hp⟩ := sym_place d h t ht hn
  obtain ⟨s1, s2⟩ := symIdx_at (d.choose 256) t hK
  have hlen := ht.len
  induction m with
  | zero =>
    intro k i hi hk
    obtain ⟨k, rfl⟩ : ∃ m, k = m + 1 := ⟨k - 1, by omega⟩
    have hi' : (i : Int) = d.symV t := by unfold D.symV; omega
    have hr := ht.rd_range i (by omega) (by omega)
    have e1 : rd t (i : Int) = t[symIdx t (d.choose 256)] := by rw [hi']; simp [rd, D.symV, hK]
    have ew : IntKind.u64.wrap (wrap64 (256 - rd t (i : Int))) = 256 - rd t (i : Int) := by rw [show wrap64 (256 - rd t (i : Int)) = 256 - rd t (i : Int) from by unfold wrap64; omega]; exact wraps_u64 _ (by omega) (by omega)
    simp only [madrigalref3_Dec_Symbol.l0]
    have p0 := hp.a0
    have p1 := hp.a1
    have p2 := hp.a2
    have elo : (256 - (if 0 < i then rd t ((i : Int) - 1) else 256)) = symLo t (d.symV t) := by
      unfold symLo
      rw [← hi']
      by_cases h0 : 0 < i
      · rw [if_pos h0, if_pos (by omega)]
      · rw [if_neg h0, if_neg (by omega)]; rfl
    have ew2 : IntKind.u64.wrap (wrap64 (256 - (if 0 < i then rd t ((i : Int) - 1) else 256))) = symLo t (d.symV t) := by rw [elo, show wrap64 (symLo t (d.symV t)) = symLo t (d.symV t) from by unfold wrap64; omega]; exact wraps_u64 _ (by omega) (by omega)
    rw [if_pos (by omega), if_pos (by omega), ew, ew2, if_neg (by rw [e1]; omega)]
    have ehi : 256 - rd t (i : Int) = symHi t (d.symV t) := by unfold symHi; rw [hi']
    rw [ehi, take3_f d h _ _ 256 hp hc k (by omega), hi']
    rfl
  | succ m ih =>
    intro k i hi hk
    obtain ⟨k, rfl⟩ : ∃ m, k = m + 1 := ⟨k - 1, by omega⟩
    have hr := ht.rd_range i (by omega) (by omega)
    have ew : IntKind.u64.wrap (wrap64 (256 - rd t (i : Int))) = 256 - rd t (i : Int) := by rw [show wrap64 (256 - rd t (i : Int)) = 256 - rd t (i : Int) from by unfold wrap64; omega]; exact wraps_u64 _ (by omega) (by omega)
    have hlt : i < t.length := by omega
    have e1 : rd t (i : Int) = t[i] := by simp [rd, hlt]
    simp only [madrigalref3_Dec_Symbol.l0]
    rw [if_pos (by omega), if_pos (by omega), ew, if_pos (by rw [e1]; exact s2 i (by omega)), show wrap64 ((i : Int) + 1) = ((i + 1 : Nat) : Int) from by unfold wrap64; omega]
    have := ih k (i + 1) (by omega) (by omega)
    rw [if_pos (by omega)] at this
    rw [show (((i + 1 : Nat) : Int) - 1) = (i : Int) from by omega] at this
    exact this
theorem sym3_f (d : D) (h : DOk d) (e : Int) (t : List Int) (ht : TabOk t) (hg : madrigalref1_Good.f 300 t = some true) (hn : 0 < t.length) (hc : d.count ≤ 900000000000000000) :
    madrigalref3_Dec_Symbol.f 300 d.b d.rng d.val d.last d.front d.back d.window d.waiting d.count d.bad e t = some ((d.sym t).told3 (d.symV t) (d.rng / 256)) := by
  obtain ⟨hK, hp⟩ := sym_place d h t ht hn
  have hlen := ht.len
  unfold madrigalref3_Dec_Symbol.f
  rw [hg]
  simp only [Option.bind_some, if_true]
  rw [choose3_f d h e 256 (by omega) (by omega)]
  simp only [Option.bind_some]
  have := sym3_l d h t ht hn hc (symIdx t (d.choose 256)) 300 0 (by omega) (by omega)
  simpa using this
end Go.Proofs.Ytiabenmgbikllaa.M

-- E5
namespace Go.Proofs.Ytiabenmgbikllaa.M
open Go.RowKit Go.Proofs.YtiabenmgbikllaaW.PrintWords Go.Proofs.YtiabenmgbikllaaW.PrintLast Go.Proofs.YtiabenmgbikllaaW.PrintMore
attribute [local go_sem] max2_int min2_int max_two min_two max_three min_three max_four min_four

set_option maxHeartbeats 1000000 in
set_option maxRecDepth 100000 in
theorem clone_calls (w : World) (v : Value) (xs : List Int) (h : Rd w .u8 v xs) (hn : xs.length ≤ 140737488355328) :
    Calls Try.prog 69 #[v] w fun r w' => ∃ v1, r = .returned v1 ∧ w'.ownsRow 0 5 1 v1 xs.length (nums .u8 xs) ∧ Chg w w' No ∧ Ge w.heap.size (blkOf v1) := by
  rcases h with ⟨rfl, rfl⟩ | ⟨ad, c, rfl, hc, hr⟩
  · have he := fun w : World => run_eql_slice_nil (P := Try.prog) w 26 5 none 0 0 Try.underlying26
    go_enter Try.func69, Try.ntmps69
    go_wp2
    go_returns
    exact ⟨_, rfl, own_nil _ _ _ _, Chg.refl w No, fun k hk => by cases hk⟩
  · have he := fun w : World => run_eql_slice_nil (P := Try.prog) w 26 5 (some ad) xs.length c Try.underlying26
    have HR := Aside0.mk hr
    clear hr
    go_enter Try.func69, Try.ntmps69
    go_wp2_with (at_builtin; refine appRow rfl (.tmp 5) (.tmp 6) 26 5 .u8 1 rfl Try.underlying26 info5 (by omega) (.slice (some ⟨w.heap.size, 0, none⟩) 0 0) [] xs _ _ c rfl rfl (own_lit _ _ _ _ _ (Nat.zero_le _) (by simp)) (HR.out.below (below_alloc (Below.refl _ _) _)) (by simp; omega) ?_; intro v1 w1 ho hch hx)
    have HO : Aside0 (w1.ownsRow 0 5 1 v1 xs.length (nums .u8 xs) ∧ Chg w w1 No ∧ Ge w.heap.size (blkOf v1)) := by
      refine ⟨ho, ((Chg.refl w No).alloc _).trans hch (fun b hb => .inr ?_), fun b hb => ?_⟩
      · have : w.heap.size = b := by simpa [blkOf, Value.ownBlock] using hb
        omega
      · rcases hx b hb with hh | hh
        · have : w.heap.size = b := by simpa [blkOf, Value.ownBlock] using hh
          omega
        · simp at hh; omega
    clear ho hch hx
    go_wp2
    go_returns
    exact ⟨v1, rfl, HO.out⟩
end Go.Proofs.Ytiabenmgbikllaa.M

-- Shelf
/-
  DERIVED: THE SHELF's CONTRACTS AT THIS DUMP, IN PLAIN WORDS (tools/lay-plain.mjs out of 'TryShelf.lean', which tools/lay-shelf.mjs wrote): THE SAME DECLARATIONS UNDER THE SAME NAMES: 'import', 'namespace', 'open', 'def', 'theorem' AND NOTHING ELSE: no command of the shelf's: FOR A HAND-IN. Each laying: the table of numbers ('.._ren') and one theorem, a field a fact of the dump's own or the kernel's comparison; each contract: ONE APPLICATION.
-/
namespace Go.Proofs
open Go.Shelf
def Try.lays125_ren : Go.Shelf.Ren := ⟨fun | 125 => 124 | 128 => 146 | 129 => 82 | n => n, fun | 46 => 93 | 3 => 3 | 51 => 63 | 53 => 89 | 4 => 4 | 5 => 5 | 9 => 9 | n => n, fun | n => n⟩
theorem Try.lays125 : Go.Proofs.Lays.n125 Try.prog Try.lays125_ren := {
  mixed := by kernel_rfl
  f125 := Try.func124.trans (congrArg some (by kernel_rfl))
  f128 := Try.func146.trans (congrArg some (by kernel_rfl))
  f129 := Try.func82.trans (congrArg some (by kernel_rfl))
  t3 := Try.underlying3
  a3 := Try.isAgg3
  z3 := Try.sizeOf3
  v3 := Try.zeroValue3
  t4 := Try.underlying4
  a4 := Try.isAgg4
  z4 := Try.sizeOf4
  v4 := Try.zeroValue4
  t5 := Try.underlying5
  a5 := Try.isAgg5
  z5 := Try.sizeOf5
  v5 := Try.zeroValue5
  t9 := Try.underlying9
  a9 := Try.isAgg9
  z9 := Try.sizeOf9
  v9 := Try.zeroValue9
  t46 := Try.underlying93
  a46 := Try.isAgg93
  z46 := Try.sizeOf93
  v46 := Try.zeroValue93
  t51 := Try.underlying63
  a51 := Try.isAgg63
  z51 := Try.sizeOf63
  v51 := Try.zeroValue63
  t53 := Try.underlying89
  a53 := Try.isAgg89
  z53 := Try.sizeOf89
  v53 := Try.zeroValue89 }
/-- bits.Len: "Len returns the minimum number of bits required to represent x; the result is 0 for x == 0.": IT RETURNS 'Lib.bitLen x'; the world is as it was. (A uint has 64 bits in the model.) ITS CALLEE bits.Len64 IS MET BY ITS OWN CONTRACT OFF THE SHELF (lay that first). (LAID: no walk: one application.) -/
theorem Try.bits_Len (x : Int) (w : World) (h0 : 0 ≤ x) (h1 : x ≤ 18446744073709551615) :
    Calls Try.prog 124 #[.int .u64 x] w fun e w' => e = .returned (.int .i64 (Lib.bitLen x.toNat)) ∧ w' = w := Any.bits_Len Try.lays125 x w h0 h1
def Try.lays129_ren : Go.Shelf.Ren := ⟨fun | 129 => 82 | n => n, fun | 53 => 89 | 3 => 3 | 4 => 4 | 46 => 93 | 5 => 5 | 9 => 9 | n => n, fun | n => n⟩
theorem Try.lays129 : Go.Proofs.Lays.n129 Try.prog Try.lays129_ren := {
  mixed := by kernel_rfl
  f129 := Try.func82.trans (congrArg some (by kernel_rfl))
  t3 := Try.underlying3
  a3 := Try.isAgg3
  z3 := Try.sizeOf3
  v3 := Try.zeroValue3
  t4 := Try.underlying4
  a4 := Try.isAgg4
  z4 := Try.sizeOf4
  v4 := Try.zeroValue4
  t5 := Try.underlying5
  a5 := Try.isAgg5
  z5 := Try.sizeOf5
  v5 := Try.zeroValue5
  t9 := Try.underlying9
  a9 := Try.isAgg9
  z9 := Try.sizeOf9
  v9 := Try.zeroValue9
  t46 := Try.underlying93
  a46 := Try.isAgg93
  z46 := Try.sizeOf93
  v46 := Try.zeroValue93
  t53 := Try.underlying89
  a53 := Try.isAgg89
  z53 := Try.sizeOf89
  v53 := Try.zeroValue89 }
/-- bits.Len64: "Len64 returns the minimum number of bits required to represent x; the result is 0 for x == 0.": IT RETURNS 'Lib.bitLen x'; the world is as it was. ('h0', 'h1': x is a uint64.) (LAID: no walk: one application.) -/
theorem Try.bits_Len64 (x : Int) (w : World) (h0 : 0 ≤ x) (h1 : x ≤ 18446744073709551615) :
    Calls Try.prog 82 #[.int .u64 x] w fun e w' => e = .returned (.int .i64 (Lib.bitLen x.toNat)) ∧ w' = w := Any.bits_Len64 Try.lays129 x w h0 h1
end Go.Proofs

-- E4
namespace Go.Proofs.Ytiabenmgbikllaa.M
open Go.RowKit Go.Proofs.YtiabenmgbikllaaW.PrintWords Go.Proofs.YtiabenmgbikllaaW.PrintLast Go.Proofs.YtiabenmgbikllaaW.PrintMore Go.Proofs.Ytiabenmgbikllaa.PAll
attribute [local go_sem] max2_int min2_int max_two min_two max_three min_three max_four min_four

/-- A writer at first. -/
def E.new : E := ⟨[], 0, 2147483648, [], 0, 33⟩
theorem EOk.new : EOk E.new := ⟨by decide, by decide, by decide, by decide, by decide, by decide, by decide⟩
/-- One block. -/
def One (g : Nat) : Nat → Prop := fun b => b = g

set_option maxHeartbeats 1000000 in
set_option maxRecDepth 100000 in
theorem enew_calls (w : World) :
    Calls Try.prog 38 #[] w fun r w' => r = .returned (.pointer (some ⟨w.heap.size, 0, none⟩)) ∧ EncAt w' (One w.heap.size) w.heap.size E.new ∧ Chg w w' No := by
  go_enter Try.func38, Try.ntmps38
  go_wp2
  go_returns
  refine ⟨rfl, ⟨.slice none 0 0, .slice none 0 0, heap_alloc_new _ _, own_nil _ _ _ _, own_nil _ _ _ _, ne_nil _, rfl, (fun k hk => by cases hk), (fun k hk => by cases hk), ?_⟩, (Chg.refl w No).alloc _⟩
  intro b hb
  rw [hb]
  exact blk_lt (heap_alloc_new w _)

def E.uint (e : E) (v ft : Int) : E := if ft = 1 then e else e.take v (v + 1) ft

set_option maxHeartbeats 1000000 in
set_option maxRecDepth 100000 in
theorem euint_calls (w : World) (f : Nat → Prop) (g : Nat) (e : E) (v ft : Int) (h : EncAt w f g e) (hk : EOk e) (h0 : 0 ≤ v) (h1 : v < ft) (h2 : ft ≤ 256) :
    Calls Try.prog 119 #[.pointer (some ⟨g, 0, none⟩), .int .i64 v, .int .i64 ft] w fun r w' => r = .returned (.int .i64 0) ∧ ∃ f', EncAt w' f' g (e.uint v ft) ∧ Chg w w' f ∧ Ext w f f' := by
  by_cases h3 : ft = 1
  · have HF : Aside0 (∃ f', EncAt w f' g (e.uint v ft) ∧ Chg w w f ∧ Ext w f f') := ⟨⟨f, by rw [E.uint, if_pos h3]; exact h, Chg.refl w f, Ext.refl w f⟩⟩
    clear h hk
    subst h3
    go_enter Try.func119, Try.ntmps119
    go_wp2
    go_returns
    exact ⟨rfl, HF.out⟩
  · have HE : Aside0 (e.uint v ft = e.take v (v + 1) ft) := ⟨by rw [E.uint, if_neg h3]⟩
    have HH := Aside0.mk (And.intro h hk)
    clear h hk
    have h4 : (ft == 1) = false := by simpa using h3
    have w1 : IntKind.u64.wrap v = v := wraps_u64 _ (by omega) (by omega)
    have w2 : IntKind.u64.wrap (v + 1) = v + 1 := wraps_u64 _ (by omega) (by omega)
    have w3 : IntKind.u64.wrap ft = ft := wraps_u64 _ (by omega) (by omega)
    go_enter Try.func119, Try.ntmps119
    go_wp2_with fail
    refine (etake_calls _ f g e v (v + 1) ft HH.out.1 HH.out.2 h0 (by omega) (by omega) (by omega)).mono ?_
    rintro r w1 ⟨rfl, f', hE, hch, hxt⟩
    have HF : Aside0 (∃ f', EncAt w1 f' g (e.uint v ft) ∧ Chg w w1 f ∧ Ext w f f') := ⟨⟨f', by rw [HE.out]; exact hE, hch, hxt⟩⟩
    clear hE hch hxt
    go_wp2
    go_returns
    exact ⟨rfl, HF.out⟩

def E.tell (e : E) : Int := e.count - (Lib.bitLen e.rng.toNat : Int)
theorem bitLenAux_le : ∀ n x, Lib.bitLenAux n x ≤ n
  | 0, _ => Nat.le_refl _
  | n + 1, x => by
    have := bitLenAux_le n (x / 2)
    simp only [Lib.bitLenAux]
    split <;> omega
theorem bitLen_le (x : Nat) : Lib.bitLen x ≤ 64 := bitLenAux_le 64 x

set_option maxHeartbeats 1000000 in
set_option maxRecDepth 100000 in
theorem etell_calls (w : World) (f : Nat → Prop) (g : Nat) (e : E) (h : EncAt w f g e) (hk : EOk e) :
    Calls Try.prog 41 #[.pointer (some ⟨g, 0, none⟩)] w fun r w' => r = .returned (.int .i64 e.tell) ∧ ∃ n, w' = w.drewN n := by
  obtain ⟨vt, vr, h⟩ := h
  obtain ⟨r1, r2, v0, v1, hn, c0, c1⟩ := hk
  have k5 := h.c5
  have k2 := h.c2
  have hl := bitLen_le e.rng.toNat
  clear h
  go_enter Try.func41, Try.ntmps41
  go_wp2_with fail
  go_quiet ((go_at_call 82; exact Calls.quiet_of_same (Try.bits_Len64 e.rng _ (by omega) (by omega))))
  go_wp2
  go_returns
  exact ⟨rfl, _, rfl⟩
end Go.Proofs.Ytiabenmgbikllaa.M

-- D2
namespace Go.Proofs.Ytiabenmgbikllaa.M
set_option linter.unusedVariables false
open Go.RowKit Go.Proofs.YtiabenmgbikllaaW.PrintWords Go.Proofs.YtiabenmgbikllaaW.PrintLast Go.Proofs.YtiabenmgbikllaaW.PrintMore Go.Proofs.Ytiabenmgbikllaa.PAll
attribute [local go_sem] max2_int min2_int max_two min_two max_three min_three max_four min_four

/-- A reader lies in block g; its bytes lay in the world w0 already, of which nothing has changed. -/
def DecAt (w0 w : World) (g : Nat) (d : D) : Prop := IsS91 w0 w g d.b d.rng d.val d.last d.front d.back d.window d.waiting d.count d.bad ∧ Below w0.heap.size w0 w
theorem DecAt.ge {w0 w : World} {g : Nat} {d : D} (h : DecAt w0 w g d) : w0.heap.size ≤ g := h.1.ge
theorem DecAt.lt {w0 w : World} {g : Nat} {d : D} (h : DecAt w0 w g d) : g < w.heap.size := h.1.lt
theorem DecAt.chg {w0 w w1 : World} {g : Nat} {d : D} {S : Nat → Prop} (h : DecAt w0 w g d) (k : Chg w w1 S) (hg : ¬ S g) (hS : Ge w0.heap.size S) : DecAt w0 w1 g d := by
  obtain ⟨⟨A, c, hb, hge, hr⟩, hB⟩ := h
  exact ⟨⟨A, c, k.blk hb hg, hge, hr⟩, hB.trans (k.below hS hB.size)⟩
/-- What a printed contract of the reader gives. -/
theorem DecAt.of {w0 w w1 : World} {g : Nat} {d : D} (h : DecAt w0 w g d) (d' : D) (hb : d'.b = d.b) (hi : IsS91 w0 w1 g d.b d'.rng d'.val d'.last d'.front d'.back d'.window d'.waiting d'.count d'.bad) (hB : Below w0.heap.size w0 w1) (hk : KeepBut w w1 g none) :
    DecAt w0 w1 g d' ∧ Chg w w1 (One g) := ⟨⟨by rw [hb]; exact hi, hB⟩, Chg.of_keep h.2 hB hk⟩

theorem dsym_calls (w0 w : World) (g : Nat) (d : D) (t : List Int) (A : Option Addr) (c : Nat) (h : DecAt w0 w g d) (hd : DOk d) (ht : TabOk t) (hn : 0 < t.length) (hr : ReadsInt w .i64 A t.length t) (hc : t.length ≤ c)
    (hf : ∀ ad, A = some ad → ad.block ≠ g) (hk : d.count ≤ 900000000000000000) :
    Calls Try.prog 87 #[.pointer (some ⟨g, 0, none⟩), .slice A t.length c] w fun r w' => r = .returned (.int .i64 (d.symV t)) ∧ DecAt w0 w' g (d.sym t) ∧ Chg w w' (One g) :=
  (rc_Dec_Symbol.calls 300 g d.b d.rng d.val d.last d.front d.back d.window d.waiting d.count d.bad A c t _ _ _ _ _ _ _ _ _ _ w0 w h.1 h.2 (Kd.C_of_reads (d := 0) (readsInt_of.1 hr)) hc (fun ad ha _ => hf ad ha) (sym_f d hd t ht hn hk)).mono
    fun r w' ⟨h1, h2, h3, h4⟩ => ⟨h1, (h.of (d.sym t) (sym_ok d hd t ht hn hk).2.2.1 h2 h3 h4).1, (h.of (d.sym t) (sym_ok d hd t ht hn hk).2.2.1 h2 h3 h4).2⟩
theorem dchoose_calls (w0 w : World) (g : Nat) (d : D) (ft : Int) (h : DecAt w0 w g d) (hd : DOk d) (f0 : 1 ≤ ft) (f1 : ft ≤ 32768) :
    Calls Try.prog 122 #[.pointer (some ⟨g, 0, none⟩), .int .u64 ft] w fun r w' => r = .returned (.int .u64 (d.choose ft)) ∧ DecAt w0 w' g d ∧ Chg w w' (One g) :=
  (rc_Dec_choose.calls g d.b d.rng d.val d.last d.front d.back d.window d.waiting d.count d.bad ft _ _ _ _ _ _ _ _ _ _ w0 w h.1 h.2 (choose_f d hd ft f0 f1)).mono
    fun r w' ⟨h1, h2, h3, h4⟩ => ⟨h1, (h.of d rfl h2 h3 h4).1, (h.of d rfl h2 h3 h4).2⟩
theorem dtake_calls (w0 w : World) (g : Nat) (d : D) (fl fh ft : Int) (h : DecAt w0 w g d) (hd : DOk d) (hp : InPlace d fl fh ft) (hk : d.count ≤ 900000000000000000) :
    Calls Try.prog 123 #[.pointer (some ⟨g, 0, none⟩), .int .u64 fl, .int .u64 fh, .int .u64 ft] w fun r w' => r = .returned (.tuple #[]) ∧ DecAt w0 w' g (d.take fl fh ft) ∧ Chg w w' (One g) :=
  (rc_Dec_take.calls 4 g d.b d.rng d.val d.last d.front d.back d.window d.waiting d.count d.bad fl fh ft _ _ _ _ _ _ _ _ _ w0 w h.1 h.2 (take_f d hd fl fh ft hp hk 4 (by omega))).mono
    fun r w' ⟨h1, h2, h3, h4⟩ => ⟨h1, (h.of (d.take fl fh ft) (take_ok d hd fl fh ft hp hk).2.2 h2 h3 h4).1, (h.of (d.take fl fh ft) (take_ok d hd fl fh ft hp hk).2.2 h2 h3 h4).2⟩

/-- A small number. -/
def D.small (d : D) (ft : Int) : D := d.take (d.choose ft) (d.choose ft + 1) ft
theorem small_place (d : D) (h : DOk d) (ft : Int) (f0 : 1 ≤ ft) (f1 : ft ≤ 32768) : InPlace d (d.choose ft) (d.choose ft + 1) ft := by
  obtain ⟨p1, _⟩ := take_facts d.rng ft 0 ft h.r1 h.r2 (by omega) (by omega) (by omega) f1
  have hf := choose_range d.val (d.rng / ft) ft p1 h.v0 f0
  have h1 : 0 ≤ d.choose ft := hf.1
  have h2 : d.choose ft < ft := hf.2
  exact ⟨h1, by omega, by omega, f1, by omega, by omega⟩

set_option maxHeartbeats 1000000 in
set_option maxRecDepth 100000 in
theorem dsmall_calls (w0 w : World) (g : Nat) (d : D) (ft : Int) (h : DecAt w0 w g d) (hd : DOk d) (f0 : 2 ≤ ft) (f1 : ft ≤ 256) (hk : d.count ≤ 900000000000000000) :
    Calls Try.prog 81 #[.pointer (some ⟨g, 0, none⟩), .int .i64 ft] w fun r w' => r = .returned (.int .i64 (d.choose ft)) ∧ DecAt w0 w' g (d.small ft) ∧ Chg w w' (One g) := by
  have hp := small_place d hd ft (by omega) (by omega)
  have HH := Aside0.mk (And.intro h (And.intro hd hp))
  have w1 : IntKind.u64.wrap ft = ft := wraps_u64 _ (by omega) (by omega)
  obtain ⟨c0, c1, c2, _, _, _⟩ := hp
  have w2 : IntKind.u64.wrap (d.choose ft + 1) = d.choose ft + 1 := wraps_u64 _ (by omega) (by omega)
  clear h hd
  go_enter Try.func81, Try.ntmps81
  go_wp2_with (first
    | (go_at_call 122; refine (dchoose_calls w0 w g d ft HH.out.1 HH.out.2.1 (by omega) (by omega)).mono ?_; rintro r w1 ⟨rfl, h1, k1⟩; have H1 := Aside0.mk (And.intro h1 k1); clear h1 k1)
    | (go_at_call 123; refine (dtake_calls w0 _ g d (d.choose ft) (d.choose ft + 1) ft H1.out.1 HH.out.2.1 HH.out.2.2 hk).mono ?_; rintro r w2 ⟨rfl, h2, k2⟩; have H2 := Aside0.mk (And.intro h2 k2); clear h2 k2))
  go_returns
  exact ⟨rfl, H2.out.1, H1.out.2.trans H2.out.2 (Ext.refl _ _)⟩
end Go.Proofs.Ytiabenmgbikllaa.M

-- D3
namespace Go.Proofs.Ytiabenmgbikllaa.M
set_option linter.unusedVariables false
open Go.RowKit Go.Proofs.YtiabenmgbikllaaW.PrintWords Go.Proofs.YtiabenmgbikllaaW.PrintLast Go.Proofs.YtiabenmgbikllaaW.PrintMore Go.Proofs.Ytiabenmgbikllaa.PAll
attribute [local go_sem] max2_int min2_int max_two min_two max_three min_three max_four min_four

/-- A reader ahead of its first byte. -/
def D.zero (b : List Int) : D := ⟨b, 128, 0, 0, 0, 0, 0, 0, 9, false⟩
def D.first (b : List Int) : D := { D.zero b with val := 127 - (D.zero b).nextV / 2, last := (D.zero b).nextV, front := (D.zero b).nextF }
def D.new (b : List Int) : D := (D.first b).norm
theorem zero_base (b : List Int) (hb : Bytes b) (hn : b.length ≤ 140737488355328) : DBase (D.zero b) :=
  ⟨hb, hn, by show (0:Int) ≤ 0; omega, by show (0:Int) < 256; omega, by show (0:Int) ≤ 0; omega, by show (0:Int) ≤ b.length; omega, by show _ ≤ (9:Int); omega, by show (9:Int) ≤ _; omega⟩
theorem first_base (b : List Int) (hb : Bytes b) (hn : b.length ≤ 140737488355328) : DBase (D.first b) := by
  have hv := (D.zero b).nextV_range (zero_base b hb hn)
  have hf : 0 ≤ (D.zero b).nextF ∧ (D.zero b).nextF ≤ b.length := by
    unfold D.nextF
    have e1 : (D.zero b).front = 0 := rfl
    have e2 : (D.zero b).b = b := rfl
    rw [e1, e2]
    split <;> omega
  exact ⟨hb, hn, hv.1, hv.2, hf.1, hf.2, by show _ ≤ (9:Int); omega, by show (9:Int) ≤ _; omega⟩
theorem new_ok (b : List Int) (hb : Bytes b) (hn : b.length ≤ 140737488355328) : DOk (D.new b) ∧ (D.new b).count ≤ 33 ∧ (D.new b).b = b := by
  have hv := (D.zero b).nextV_range (zero_base b hb hn)
  have er : (D.first b).rng = 128 := rfl
  have ev : (D.first b).val = 127 - (D.zero b).nextV / 2 := rfl
  have ec : (D.first b).count = 9 := rfl
  obtain ⟨i1, i2, i3, i4, i5, i6, i7⟩ := normL_ok 3 (D.first b) (first_base b hb hn) (by omega) (by omega) (by omega) (by omega) (by omega) (by omega)
  refine ⟨⟨i1, i2, i3, i4, i5, ?_, ?_⟩, ?_, ?_⟩
  · show 0 ≤ (D.normL 3 (D.first b)).count; omega
  · show (D.normL 3 (D.first b)).count ≤ _; omega
  · show (D.normL 3 (D.first b)).count ≤ _; omega
  · have : ∀ j e, (D.normL j e).b = e.b := by
      intro j
      induction j with
      | zero => intro e; rfl
      | succ j ih => intro e; show (if _ then _ else _ : D).b = _; split <;> first | (rw [ih]; rfl) | rfl
    exact this 3 _

set_option maxHeartbeats 1000000 in
set_option maxRecDepth 100000 in
theorem dnew_calls (w : World) (v : Value) (b : List Int) (h : Rd w .u8 v b) (hb : Bytes b) (hn : b.length ≤ 140737488351232) :
    Calls Try.prog 21 #[v] w fun r w' => ∃ w0 g, r = .returned (.pointer (some ⟨g, 0, none⟩)) ∧ DecAt w0 w' g (D.new b) ∧ Chg w w' No ∧ w.heap.size ≤ w0.heap.size := by
  have HR := Aside0.mk h
  clear h
  go_enter Try.func21, Try.ntmps21
  go_wp2_with (go_at_call 69; refine (clone_calls w v b HR.out (by omega)).mono ?_; rintro r w1 ⟨va, rfl, ho, hch, hge⟩; obtain ⟨A, c, rfl⟩ := own_slice ho; have HO := Aside0.mk (And.intro ho (And.intro hch hge)); clear ho hch hge)
  have HZ := Aside0.mk (zero_base b hb (by omega))
  have HF := Aside0.mk (first_base b hb (by omega))
  have HN := Aside0.mk (new_ok b hb (by omega))
  obtain ⟨x0, x1⟩ := (D.zero b).nextV_range HZ.out
  clear hb
  have HA : Aside0 (DecAt w1 (w1.alloc (.cells #[.slice A b.length c, .int .u64 128, .int .u64 0, .int .u64 0, .int .i64 0, .int .i64 0, .int .u64 0, .int .i64 0, .int .i64 9, .bool false] 91)) w1.heap.size (D.zero b)) :=
    ⟨⟨IsS91.new w1 w1 A c b 128 0 0 0 0 0 0 9 false (Below.refl _ _) (Kd.C_of_reads (d := 0) (readsInt_of.1 (own_reads' HO.out.1))), below_alloc (Below.refl _ _) _⟩⟩
  refine (rc_Dec_next.calls w1.heap.size b 128 0 0 0 0 0 0 9 false _ _ _ _ _ _ _ _ _ _ w1 _ HA.out.1 HA.out.2 (next_f (D.zero b) HZ.out 128 9)).mono ?_
  rintro r w2 ⟨rfl, h1, h2, h3⟩
  have h1' : DecAt w1 w2 w1.heap.size { D.zero b with front := (D.zero b).nextF } := ⟨h1, h2⟩
  obtain ⟨A2, c2, hb2, _, hr2⟩ := h1
  have q3 := cellS91_3 hb2
  have q2 := cellS91_2 hb2
  have z3 := blk_frozen hb2 3
  have z2 := blk_frozen hb2 2
  have H2 := Aside0.mk (And.intro h1' h3)
  clear h1' h2 h3 hb2 hr2
  go_wp2_with fail
  have H3 : Aside0 (DecAt w1 ((w2.setCell ⟨w1.heap.size, 3, none⟩ (.int .u64 (D.zero b).nextV)).setCell ⟨w1.heap.size, 2, none⟩ (.int .u64 (127 - (D.zero b).nextV / 2))) w1.heap.size (D.first b)) := by
    obtain ⟨⟨k1, k2⟩, k3⟩ := H2.out
    exact ⟨⟨(k1.set_3 _).set_2 _, (k2.setCell (Nat.le_refl _) _).setCell (Nat.le_refl _) _⟩⟩
  refine (rc_Dec_normalise.calls 4 w1.heap.size b _ _ _ _ _ _ _ _ _ _ _ _ _ _ _ _ _ _ w1 _ H3.out.1 H3.out.2 (norm_l 3 4 (D.first b) HF.out ?_ ?_ ?_ ?_ ?_ ?_ ?_)).mono ?_
  · show (9 : Int) + 8 * 3 ≤ _; omega
  · show (1 : Int) ≤ 128; omega
  · show (128 : Int) ≤ _; omega
  · show 0 ≤ 127 - (D.zero b).nextV / 2; omega
  · show 127 - (D.zero b).nextV / 2 < _; omega
  · show (8388608 : Int) < 128 * 256 ^ 3; omega
  · omega
  rintro r w3 ⟨rfl, h1, h2, h3⟩
  have H4 : Aside0 (DecAt w1 w3 w1.heap.size (D.new b) ∧ Chg w w3 No ∧ w.heap.size ≤ w1.heap.size) :=
    ⟨⟨by rw [HN.out.2.2]; exact h1, h2⟩, HO.out.2.1.trans (Chg.of_below h2 No) (Ext.refl _ _), HO.out.2.1.size⟩
  clear h1 h2 h3
  go_wp2_with fail
  go_returns
  exact ⟨w1, w1.heap.size, rfl, H4.out⟩

def D.tell (d : D) : Int := d.count - (Lib.bitLen d.rng.toNat : Int)
set_option maxHeartbeats 1000000 in
set_option maxRecDepth 100000 in
theorem dtell_calls (w0 w : World) (g : Nat) (d : D) (h : DecAt w0 w g d) (hd : DOk d) :
    Calls Try.prog 32 #[.pointer (some ⟨g, 0, none⟩)] w fun r w' => r = .returned (.int .i64 d.tell) ∧ ∃ n, w' = w.drewN n := by
  obtain ⟨⟨A, c, hb, _, _⟩, _⟩ := h
  have k8 := cellS91_8 hb
  have k1 := cellS91_1 hb
  have r1 := hd.r1
  have r2 := hd.r2
  have c0 := hd.k0
  have c1 := hd.k1
  have hl := bitLen_le d.rng.toNat
  clear hb hd
  go_enter Try.func32, Try.ntmps32
  go_wp2_with fail
  go_quiet ((go_at_call 82; exact Calls.quiet_of_same (Try.bits_Len64 d.rng _ (by omega) (by omega))))
  go_wp2
  go_returns
  exact ⟨rfl, _, rfl⟩
end Go.Proofs.Ytiabenmgbikllaa.M
