/- The built-in copy into a slice that the call owns, as one operation of a walk. Conditions: none. -/
import Derived.Test.YtiabenmgbikllaaA1
import Derived.Laws.CopyOwn
namespace Go.Proofs.Ytiabenmgbikllaa.M
open Go.RowKit Go.Proofs.YtiabenmgbikllaaW.PrintWords Go.Proofs.YtiabenmgbikllaaW.PrintLast Go.Proofs.YtiabenmgbikllaaW.PrintMore

section
variable {P : Program} {ops : Array Oper} {rest : List Oper} {o : Oper} {a : Act} {Q : Exit → Act → World → Prop}
theorem Chg.setRow {w : World} {g : Nat} (cs : Array Value) : Chg w (w.setRow g cs) (fun b => b = g) :=
  ⟨rfl, rfl, rfl, by simp [World.setRow], fun k _ hn => setRow_other w g k cs hn⟩
theorem copyRow {W : World} (hgd : o.guard = none) (d s : Operand) (T e : TypeId) (k : IntKind) (ho : o.op = .call { callee := .builtin .copy, args := #[d, s], argTypes := #[T, T] })
    (hu : P.underlying T = some (.slice e)) (hsz : (P.info? e).map (·.size) = some 1) (g n cap : Nat) (xs ys : List Int) (A : Option Addr) (c : Nat)
    (hd : a.eval d = .slice (some ⟨g, 0, none⟩) n cap) (hs : a.eval s = .slice A ys.length c) (HO : W.ownsRow 0 e 1 (.slice (some ⟨g, 0, none⟩) n cap) n (nums k xs)) (HR : ReadsInt W k A ys.length ys)
    (h : ∀ w1, w1.ownsRow 0 e 1 (.slice (some ⟨g, 0, none⟩) n cap) n (nums k (ys.take n ++ xs.drop ys.length)) → Chg W w1 (fun b => b = g) → wpList P ops Q rest (a.put o.dst (goInt (Nat.min ys.length n))) w1) :
    wpList P ops Q (o :: rest) a W := by
  have hxl : xs.length = n := by have := HO.1; simpa [nums] using this
  by_cases h0 : Nat.min ys.length n = 0
  · have hh := h W (by
      have : ys.take n ++ xs.drop ys.length = xs := by
        by_cases hy : ys.length = 0
        · rw [List.eq_nil_of_length_eq_zero hy]; simp
        · have hn : n = 0 := by
            have h1 : min ys.length n = 0 := h0
            omega
          rw [hn] at hxl
          rw [List.eq_nil_of_length_eq_zero hxl, hn]; simp
      rw [this]; exact HO) (Chg.refl W _)
    rw [h0] at hh
    exact wpList_copy_nothing hgd d s T T ho e hu hsz _ _ n cap ys.length c hd hs h0 hh
  · have h1 : 0 < min ys.length n := Nat.pos_of_ne_zero h0
    obtain ⟨ad, rfl, hx⟩ := HR.2.2 (by omega)
    rcases HO.2 with ⟨hv, _⟩ | ⟨g', cap', cur, hv, hb, hg, hnc, hcm, hcs, htake⟩
    · cases hv
    · injection hv with e1 e2 e3
      injection e1 with e1
      injection e1 with e1 _ _
      subst e1
      subst e3
      have hlen : (nums k (ys.take n)).length = Nat.min ys.length n := by
        rw [nums_length, List.length_take]; exact Nat.min_comm _ _
      have hcl : cur.size = cap := by omega
      have hfit : 0 + (nums k (ys.take n)).length ≤ cur.size := by
        rw [hlen]
        have : Nat.min ys.length n ≤ n := Nat.min_le_right _ _
        omega
      have hh := h (W.setRow g (cur.toList.take 0 ++ (nums k (ys.take n) ++ cur.toList.drop (0 + (nums k (ys.take n)).length))).toArray) (by
        refine ⟨?_, .inr ⟨g, cap, (cur.toList.take 0 ++ (nums k (ys.take n) ++ cur.toList.drop (0 + (nums k (ys.take n)).length))).toArray, rfl, hb, setRow_heap W g _ _ e _ hg, hnc, hcm, ?_, ?_⟩⟩
        · simp [nums]; omega
        · simp [nums]; omega
        · have ht : cur.toList.take n = nums k xs := by simpa using htake
          simp only [List.take_zero, List.nil_append, Nat.mul_one, Nat.zero_add, nums_append]
          rw [List.take_append, hlen]
          have hm : Nat.min ys.length n = min ys.length n := rfl
          rw [hm]
          rw [List.take_of_length_le (by rw [hlen]; exact Nat.min_le_right _ _), ← List.drop_take]
          rw [ht]
          congr 1
          simp only [nums, List.map_drop]
          by_cases hyn : ys.length ≤ n
          · rw [Nat.min_eq_left hyn]
          · rw [List.drop_eq_nil_of_le (by simp; omega), List.drop_eq_nil_of_le (by simp; omega)]) (Chg.setRow _)
      refine wpList_copy_own hgd d s T T ho e hu hsz g 0 n cap ad ys.length c hd hs cur e hg (nums k (ys.take n)) hlen (fun j v hj => ?_) hfit (fun u hu => by obtain ⟨x, _, rfl⟩ := List.mem_map.1 hu; rfl) (by rw [← hlen] at hh; exact hh)
      have hj' : j < min ys.length n := by have := (List.getElem?_eq_some_iff.1 hj).1; rw [hlen] at this; exact this
      rw [hx j (by omega), ← hj]
      have a1 : j < ys.length := by omega
      have a2 : j < n := by omega
      simp [nums, List.getD, a1, a2]
end
end Go.Proofs.Ytiabenmgbikllaa.M
