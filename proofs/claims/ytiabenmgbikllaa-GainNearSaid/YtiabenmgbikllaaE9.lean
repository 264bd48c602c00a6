/- Two numbers of many bytes are held against each other, as the print tells it. Conditions: as many bytes. -/
import Derived.Test.YtiabenmgbikllaaA1
import Derived.Test.YtiabenmgbikllaaPAllx2
namespace Go.Proofs.Ytiabenmgbikllaa.M
open Go.RowKit Go.Proofs.YtiabenmgbikllaaW.PrintWords Go.Proofs.YtiabenmgbikllaaW.PrintLast Go.Proofs.YtiabenmgbikllaaW.PrintMore Go.Proofs.Ytiabenmgbikllaa.PAll

/-- Two numbers of many bytes: -1, 0, 1. -/
def cmpL : List Int → List Int → Int
  | [], [] => 0
  | [], _ :: _ => -1
  | _ :: _, [] => 1
  | x :: xs, y :: ys => if x < y then -1 else if x > y then 1 else cmpL xs ys
theorem cmp1 (a b : Int) : cmp_Compare_byte.f a b = some (if a < b then -1 else if a > b then 1 else 0) := by
  simp only [cmp_Compare_byte.f, cmp_isNaN_byte.f, Option.bind_some, bne_self_eq_false, Bool.false_eq_true, if_false]
  split
  · rfl
  · split <;> rfl
theorem cmpL_run (l0 l1 : List Int) (hl : l0.length = l1.length) (hb : l0.length ≤ 1099511627776) (d : Nat) : ∀ (k i : Nat), i + d = l0.length → d < k →
    slices_Compare_byte_byte.l0 k l0 l1 l0 (l0.length : Int) (i : Int) = some (cmpL (l0.drop i) (l1.drop i)) := by
  induction d with
  | zero =>
    intro k i hi hk
    obtain ⟨k, rfl⟩ : ∃ m, k = m + 1 := ⟨k - 1, by omega⟩
    simp only [slices_Compare_byte_byte.l0]
    rw [if_neg (by omega), if_neg (by omega), List.drop_eq_nil_of_le (by omega), List.drop_eq_nil_of_le (by omega)]
    rfl
  | succ d ih =>
    intro k i hi hk
    obtain ⟨k, rfl⟩ : ∃ m, k = m + 1 := ⟨k - 1, by omega⟩
    have h0 : i < l0.length := by omega
    have h1 : i < l1.length := by omega
    simp only [slices_Compare_byte_byte.l0]
    rw [if_pos (by omega), if_pos (by omega), if_pos (by omega), if_neg (by omega), if_pos (by omega), cmp1]
    simp only [Option.bind_some]
    rw [List.drop_eq_getElem_cons h0, List.drop_eq_getElem_cons h1]
    have e0 : rd l0 i = l0[i] := by simp [rd, h0]
    have e1 : rd l1 i = l1[i] := by simp [rd, h1]
    rw [e0, e1]
    simp only [cmpL]
    by_cases ha : l0[i] < l1[i]
    · rw [if_pos ha, if_neg (by decide), if_pos ha]
    · rw [if_neg ha]
      by_cases hb' : l0[i] > l1[i]
      · rw [if_pos hb', if_neg (by decide), if_neg ha, if_pos hb']
      · rw [if_neg hb', if_pos rfl, if_neg ha, if_neg hb']
        have := ih k (i + 1) (by omega) (by omega)
        rw [show wrap64 ((i : Int) + 1) = ((i + 1 : Nat) : Int) from by unfold wrap64; omega]
        exact this
theorem cmpL_f (l0 l1 : List Int) (hl : l0.length = l1.length) (hb : l0.length ≤ 1099511627776) : slices_Compare_byte_byte.f (l0.length + 1) l0 l1 = some (cmpL l0 l1) := by
  have := cmpL_run l0 l1 hl hb l0.length (l0.length + 1) 0 (by omega) (by omega)
  simpa [slices_Compare_byte_byte.f] using this
/-- slices.Compare of two slices that the call owns. -/
theorem compare_calls (w : World) (n : Nat) (A0 A1 : Option Addr) (c0 c1 : Nat) (l0 l1 : List Int) (h0 : w.ownsRow 0 5 1 (.slice A0 n c0) n (nums .u8 l0)) (h1 : w.ownsRow 0 5 1 (.slice A1 n c1) n (nums .u8 l1)) (hb : n ≤ 1099511627776) :
    Calls Try.prog 99 #[.slice A0 n c0, .slice A1 n c1] w fun r w' => r = .returned (.int .i64 (cmpL l0 l1)) ∧ Drawn0 w w' := by
  have e0 : l0.length = n := by have := h0.1; simpa [nums] using this
  have e1 : l1.length = n := by have := h1.1; simpa [nums] using this
  have := slices_Compare_byte_byte.calls (l0.length + 1) A0 c0 l0 A1 c1 l1 (cmpL l0 l1) w (Kd.C_of_reads (d := 0) (readsInt_of.1 (by rw [e0]; exact own_reads' h0))) (by rw [e0]; exact own_le h0)
    (Kd.C_of_reads (d := 0) (readsInt_of.1 (by rw [e1]; exact own_reads' h1))) (by rw [e1]; exact own_le h1) (cmpL_f l0 l1 (by omega) (by omega))
  rwa [e0, e1] at this
end Go.Proofs.Ytiabenmgbikllaa.M
