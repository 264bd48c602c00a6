/- The reader of bits as numbers, and that the printed functions come to the same. Conditions: bounds on the numbers. -/
import Derived.Test.YtiabenmgbikllaaE3
import Derived.Test.YtiabenmgbikllaaE7
namespace Go.Proofs.Ytiabenmgbikllaa.M
open Go.RowKit Go.Proofs.YtiabenmgbikllaaW.PrintWords Go.Proofs.YtiabenmgbikllaaW.PrintLast Go.Proofs.YtiabenmgbikllaaW.PrintMore Go.Proofs.Ytiabenmgbikllaa.PAll

/-- A reader. -/
structure D where
  b : List Int
  rng : Int
  val : Int
  last : Int
  front : Int
  back : Int
  window : Int
  waiting : Int
  count : Int
  bad : Bool

def D.nextV (d : D) : Int := if d.front ≥ d.b.length then 0 else rd d.b d.front
def D.nextF (d : D) : Int := if d.front ≥ d.b.length then d.front else d.front + 1
def D.step (d : D) : D := { d with rng := d.rng * 256, val := (d.val * 256 + 255 - (d.last * 256 + d.nextV) / 2 % 256) % 2147483648, last := d.nextV, front := d.nextF, count := d.count + 8 }
def D.normL : Nat → D → D
  | 0, d => d
  | k + 1, d => if d.rng ≤ 8388608 then D.normL k d.step else d
def D.norm (d : D) : D := D.normL 3 d
def D.choose (d : D) (ft : Int) : Int := ft - (if d.val / (d.rng / ft) + 1 ≤ ft then d.val / (d.rng / ft) + 1 else ft)
def D.take0 (d : D) (fl fh ft : Int) : D := { d with val := d.val - d.rng / ft * (ft - fh), rng := if 0 < fl then d.rng / ft * (fh - fl) else d.rng - d.rng / ft * (ft - fh) }
def D.take (d : D) (fl fh ft : Int) : D := (d.take0 fl fh ft).norm
/-- The symbol at a place. -/
def symIdx : List Int → Int → Nat
  | [], _ => 0
  | x :: l, f => if f ≥ 256 - x then symIdx l f + 1 else 0
def D.symV (d : D) (t : List Int) : Int := (symIdx t (d.choose 256) : Nat)
def D.sym (d : D) (t : List Int) : D := d.take (symLo t (d.symV t)) (symHi t (d.symV t)) 256

/-- The parts of a reader that a printed function hands back. -/
def D.tup (d : D) : Int × Int × Int × Int × Int × Int × Int × Int × Bool := (d.rng, d.val, d.last, d.front, d.back, d.window, d.waiting, d.count, d.bad)
/-- What holds of a reader at all times. -/
structure DBase (d : D) : Prop where
  bytes : Bytes d.b
  len : d.b.length ≤ 140737488355328
  l0 : 0 ≤ d.last
  l1 : d.last < 256
  f0 : 0 ≤ d.front
  f1 : d.front ≤ d.b.length
  c0 : -1152921504606846976 ≤ d.count
  c1 : d.count ≤ 1152921504606846976
theorem D.nextV_range (d : D) (h : DBase d) : 0 ≤ d.nextV ∧ d.nextV < 256 := by
  unfold D.nextV
  split
  · omega
  · exact h.bytes.at_ _ h.f0 (by omega)
theorem next_f (d : D) (h : DBase d) (r c : Int) :
    rc_Dec_next.f d.b r d.val d.last d.front d.back d.window d.waiting c d.bad = some (d.nextV, r, d.val, d.last, d.nextF, d.back, d.window, d.waiting, c, d.bad) := by
  have hf := h.f0
  have hl := h.len
  unfold rc_Dec_next.f D.nextV D.nextF
  by_cases hc : d.front ≥ d.b.length
  · rw [if_pos hc, if_pos hc, if_pos hc]
  · rw [if_neg hc, if_neg hc, if_neg hc]
    have e1 : wrap64 (d.front + 1) = d.front + 1 := by unfold wrap64; omega
    have e2 : wrap64 (d.front + 1 - 1) = d.front := by unfold wrap64; omega
    rw [e1, e2, if_pos hf, if_pos (by omega)]
    have hb := h.bytes.at_ d.front hf (by omega)
    rw [wraps_u64 _ hb.1 (by omega)]
theorem or_join (x y : Int) (hx0 : 0 ≤ x) (hx : x < 256) (hy0 : 0 ≤ y) (hy : y < 256) : bits .or .u64 (x * 256) y = x * 256 + y :=
  bits_join .u64 63 (by decide) wraps_u64 8 _ _ (by omega) (by omega) (by omega) hy0 (by omega) (by omega)
theorem and_255 (x : Int) (h0 : 0 ≤ x) (h1 : x < 1099511627776) : bits .and .u64 x 255 = x % 256 := bits_mask .u64 63 (by decide) wraps_u64 8 (by decide) x h0 (by omega)
/-- One round's number. -/
theorem val_f (v l x : Int) (hv0 : 0 ≤ v) (hv : v < 2147483648) (hl0 : 0 ≤ l) (hl : l < 256) (hx0 : 0 ≤ x) (hx : x < 256) :
    bits .and .u64 (IntKind.u64.wrap ((IntKind.u64.wrap ((IntKind.u64.wrap (v * 256)) + 255)) - (bits .and .u64 ((bits .or .u64 (IntKind.u64.wrap (l * 256)) x) / 2) 255))) 2147483647 = (v * 256 + 255 - (l * 256 + x) / 2 % 256) % 2147483648 := by
  rw [wraps_u64 (v * 256) (by omega) (by omega), wraps_u64 (v * 256 + 255) (by omega) (by omega), wraps_u64 (l * 256) (by omega) (by omega), or_join l x hl0 hl hx0 hx,
    and_255 _ (by omega) (by omega), wraps_u64 _ (by omega) (by omega), u64_code _ (by omega) (by omega)]
theorem D.step_base (d : D) (h : DBase d) (hc : d.count + 8 ≤ 1152921504606846976) : DBase d.step := by
  obtain ⟨h1, h2, h3, h4, h5, h6, h7, h8⟩ := h
  have hv := d.nextV_range ⟨h1, h2, h3, h4, h5, h6, h7, h8⟩
  have hf : 0 ≤ d.nextF ∧ d.nextF ≤ d.b.length := by unfold D.nextF; split <;> omega
  refine ⟨h1, h2, hv.1, hv.2, hf.1, hf.2, ?_, hc⟩
  show _ ≤ d.count + 8
  omega
theorem norm_l (j : Nat) : ∀ (k : Nat) (d : D), DBase d → d.count + 8 * j ≤ 1152921504606846976 → 1 ≤ d.rng → d.rng ≤ 2147483648 → 0 ≤ d.val → d.val < 2147483648 → 8388608 < d.rng * 256 ^ j → j < k →
    rc_Dec_normalise.l0 k d.b d.rng d.val d.last d.front d.back d.window d.waiting d.count d.bad = some (D.normL j d).tup := by
  induction j with
  | zero =>
    intro k d h hc r1 r2 v0 v1 hr hk
    obtain ⟨k, rfl⟩ : ∃ m, k = m + 1 := ⟨k - 1, by omega⟩
    simp only [rc_Dec_normalise.l0]
    rw [if_neg (by simp at hr; omega)]
    rfl
  | succ j ih =>
    intro k d h hc r1 r2 v0 v1 hr hk
    obtain ⟨k, rfl⟩ : ∃ m, k = m + 1 := ⟨k - 1, by omega⟩
    simp only [rc_Dec_normalise.l0]
    by_cases hs : d.rng ≤ 8388608
    · have hv := d.nextV_range h
      rw [if_pos hs, wraps_u64 (d.rng * 256) (by omega) (by omega), show wrap64 (d.count + 8) = d.count + 8 from by have := h.c0; unfold wrap64; omega, next_f d h]
      simp only [Option.bind_some]
      rw [val_f d.val d.last d.nextV v0 v1 h.l0 h.l1 hv.1 hv.2]
      have hd : D.normL (j + 1) d = D.normL j d.step := by show (if _ then _ else _) = _; rw [if_pos hs]
      rw [hd]
      refine ih k d.step (d.step_base h (by omega)) ?_ ?_ ?_ ?_ ?_ ?_ (by omega)
      · show d.count + 8 + 8 * (j : Int) ≤ _; omega
      · show 1 ≤ d.rng * 256; omega
      · show d.rng * 256 ≤ _; omega
      · show 0 ≤ (_ : Int) % 2147483648; omega
      · show (_ : Int) % 2147483648 < _; omega
      · show 8388608 < d.rng * 256 * 256 ^ j; rw [Int.mul_assoc, ← Int.pow_succ']; exact hr
    · have hd : D.normL (j + 1) d = d := by show (if _ then _ else _) = _; rw [if_neg hs]
      rw [if_neg hs, hd]
      rfl
end Go.Proofs.Ytiabenmgbikllaa.M
