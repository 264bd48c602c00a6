/- The built-in append onto a slice that the call owns, as one operation of a walk and of a region that draws its order. Conditions: the length's bound. -/
import Derived.Test.YtiabenmgbikllaaB0
import Derived.Deep.RegionLaw
namespace Go.Proofs.Ytiabenmgbikllaa.M
open Go.RowKit Go.Proofs.YtiabenmgbikllaaW.PrintWords Go.Proofs.YtiabenmgbikllaaW.PrintLast Go.Proofs.YtiabenmgbikllaaW.PrintMore

/-- The blocks of a slice's row. -/
def blkOf (v : Value) : Nat → Prop := fun b => v.ownBlock = some b
theorem blkOf_some {b k n c : Nat} (h : blkOf (.slice (some ⟨b, 0, none⟩) n c) k) : b = k := by simpa [blkOf, Value.ownBlock] using h
theorem Ext.slice {w : World} {S : Nat → Prop} {b n c : Nat} (h : w.heap.size ≤ b) : Ext w S (blkOf (.slice (some ⟨b, 0, none⟩) n c)) := fun k hk => .inr (by rw [← blkOf_some hk]; exact h)
theorem Ge.slice {B b n c : Nat} (h : B ≤ b) : Ge B (blkOf (.slice (some ⟨b, 0, none⟩) n c)) := fun k hk => by rw [← blkOf_some hk]; exact h

section
variable {P : Program} {ops : Array Oper} {rest : List Oper} {o : Oper} {a : Act} {Q : Exit → Act → World → Prop} {K : Act → World → Prop}
theorem app1 {W : World} (hgd : o.guard = none) (s x : Operand) (t e : TypeId) (k : IntKind) (bytes : Nat)
    (ho : o.op = .call { callee := .builtin .append, args := #[s, x], argTypes := #[t, t] })
    (ht : P.underlying t = some (.slice e)) (hinfo : (P.info? e).map (fun i => (i.zero, i.size, i.bytes)) = some (some (.int k 0), 1, bytes)) (hb0 : 0 < bytes)
    (v : Value) (xs : List Int) (y : Int) (hs : a.eval s = v) (hx : a.eval x = .slice (some ⟨W.heap.size, 0, none⟩) 1 1)
    (HO : W.ownsRow 0 e 1 v xs.length (nums k xs)) (hl : (xs.length + 1) * bytes ≤ 140737488355328)
    (h : ∀ v1 w1, w1.ownsRow 0 e 1 v1 (xs ++ [y]).length (nums k (xs ++ [y])) → Chg W w1 (blkOf v) → Ext W (blkOf v) (blkOf v1) → wpList P ops Q rest (a.put o.dst v1) w1) :
    wpList P ops Q (o :: rest) a (W.alloc (.cells #[.int k y] e)) :=
  print_append_num (w0 := W) 0 hgd s x t e k bytes ho ht hinfo hb0 v xs y hs hx HO (Below.refl 0 W) (Nat.zero_le _) hl
    fun v1 w1 hown _ hg hat => h v1 w1 hown ((Chg.refl W _).grown hg (fun _ hk => .inl hk)) (fun b hb => by
      rcases hat with hat | ⟨b', hb', hle⟩
      · exact .inl (hat.symm.trans hb)
      · exact .inr (by have : b = b' := by have := hb.symm.trans hb'; simpa using this
                       omega))

/-- As one operation of a region that draws: the one number lies at whatever address. -/
theorem app1s {W : World} (hg : o.guard = none) (s x : Operand) (t e : TypeId) (k : IntKind) (bytes : Nat)
    (ho : o.op = .call { callee := .builtin .append, args := #[s, x], argTypes := #[t, t] })
    (ht : P.underlying t = some (.slice e)) (hinfo : (P.info? e).map (fun i => (i.zero, i.size, i.bytes)) = some (some (.int k 0), 1, bytes)) (hb0 : 0 < bytes)
    (v : Value) (xs : List Int) (y : Int) (b : Nat) (hs : a.eval s = v) (hx : a.eval x = .slice (some ⟨b, 0, none⟩) 1 1) (hy : W.cell? ⟨b, 0, none⟩ = some (.int k y))
    (HO : W.ownsRow 0 e 1 v xs.length (nums k xs)) (hl : (xs.length + 1) * bytes ≤ 140737488355328)
    (h : ∀ v1 w1, w1.ownsRow 0 e 1 v1 (xs ++ [y]).length (nums k (xs ++ [y])) → Chg W w1 (blkOf v) → Ext W (blkOf v) (blkOf v1) → K (a.put o.dst v1) w1) :
    if Region.wanted o (yielded ops a.tmps) = true then Oper.wp P o a W K Q else K (a.put o.dst undef) W := by
  have hw : Region.wanted o (yielded ops a.tmps) = true := by simp [Region.wanted, hg]
  obtain ⟨i0, hi, hzz⟩ := Option.map_eq_some_iff.1 hinfo
  simp only [Prod.mk.injEq] at hzz
  obtain ⟨hz0, hz1, hz2⟩ := hzz
  have hlen : xs.length + 1 ≤ 140737488355328 := Nat.le_trans (Nat.le_mul_of_pos_right _ hb0) hl
  rw [if_pos hw]
  obtain ⟨v1, w1, hr, hown, hgr, _, hat⟩ := run_append_own_at (P := P) W 0 t o.type e i0 (.int k 0) 1 bytes ht hi hz0 hz1 hz2 rfl (by omega) v xs.length (nums k xs) HO ⟨b, 0, none⟩ 1 1 [.int k y] rfl
    (fun j u hj => by
      match j, hj with
      | 0, hj => simp at hj; subst hj; simpa [Addr.add] using hy) (by simp [Value.oneCell']) (by simp only [maxLen]; omega) hl (Nat.zero_le _)
  unfold Oper.wp execOp
  simp only [ho, resolve, invoke, builtin, Sem.run_bind, Sem.run_pure, Result.andThen_ok, List.map_toArray, List.map_cons, List.map_nil, hs, hx, hr]
  refine h v1 w1 (by simpa [nums] using hown) ((Chg.refl W _).grown hgr (fun _ hk => .inl hk)) (fun b hb => ?_)
  rcases hat with hat | hat
  · exact .inl (hat.symm.trans hb)
  · exact .inr (by have := hat.symm.trans hb
                   simp at this
                   omega)

/-- The same for several numbers that lie in one block. -/
theorem appNs {W : World} (hg : o.guard = none) (s x : Operand) (t e : TypeId) (k : IntKind) (bytes : Nat)
    (ho : o.op = .call { callee := .builtin .append, args := #[s, x], argTypes := #[t, t] })
    (ht : P.underlying t = some (.slice e)) (hinfo : (P.info? e).map (fun i => (i.zero, i.size, i.bytes)) = some (some (.int k 0), 1, bytes)) (hb0 : 0 < bytes)
    (v : Value) (xs ys : List Int) (b m c : Nat) (hs : a.eval s = v) (hx : a.eval x = .slice (some ⟨b, 0, none⟩) m c) (hm : ys.length = m) (hy : ∀ j, j < m → W.cell? ⟨b, j, none⟩ = some (.int k (ys.getD j 0)))
    (HO : W.ownsRow 0 e 1 v xs.length (nums k xs)) (hl : (xs.length + m) * bytes ≤ 140737488355328)
    (h : ∀ v1 w1, w1.ownsRow 0 e 1 v1 (xs ++ ys).length (nums k (xs ++ ys)) → Chg W w1 (blkOf v) → Ext W (blkOf v) (blkOf v1) → K (a.put o.dst v1) w1) :
    if Region.wanted o (yielded ops a.tmps) = true then Oper.wp P o a W K Q else K (a.put o.dst undef) W := by
  have hw : Region.wanted o (yielded ops a.tmps) = true := by simp [Region.wanted, hg]
  obtain ⟨i0, hi, hzz⟩ := Option.map_eq_some_iff.1 hinfo
  simp only [Prod.mk.injEq] at hzz
  obtain ⟨hz0, hz1, hz2⟩ := hzz
  have hlen : xs.length + m ≤ 140737488355328 := Nat.le_trans (Nat.le_mul_of_pos_right _ hb0) hl
  rw [if_pos hw]
  obtain ⟨v1, w1, hr, hown, hgr, _, hat⟩ := run_append_own_at (P := P) W 0 t o.type e i0 (.int k 0) 1 bytes ht hi hz0 hz1 hz2 rfl (by omega) v xs.length (nums k xs) HO ⟨b, 0, none⟩ m c (nums k ys) (by simp [nums, hm])
    (fun j u hj => by
      have hj' : j < ys.length := by have := (List.getElem?_eq_some_iff.1 hj).1; simpa [nums] using this
      rw [add_plain, hy j (by omega)]
      rw [← hj]
      simp [nums, List.getD, hj']) (by simp [nums, Value.oneCell']) (by simp only [maxLen]; omega) hl (Nat.zero_le _)
  unfold Oper.wp execOp
  simp only [ho, resolve, invoke, builtin, Sem.run_bind, Sem.run_pure, Result.andThen_ok, List.map_toArray, List.map_cons, List.map_nil, hs, hx, hr]
  refine h v1 w1 (by rw [List.length_append, hm, nums_append]; exact hown) ((Chg.refl W _).grown hgr (fun _ hk => .inl hk)) (fun b hb => ?_)
  rcases hat with hat | hat
  · exact .inl (hat.symm.trans hb)
  · exact .inr (by have := hat.symm.trans hb
                   simp at this
                   omega)

/-- append(v, ys...): ys a slice that is read. -/
theorem appRow {W : World} (hgd : o.guard = none) (s x : Operand) (t e : TypeId) (k : IntKind) (bytes : Nat)
    (ho : o.op = .call { callee := .builtin .append, args := #[s, x], argTypes := #[t, t] })
    (ht : P.underlying t = some (.slice e)) (hinfo : (P.info? e).map (fun i => (i.zero, i.size, i.bytes)) = some (some (.int k 0), 1, bytes)) (hb0 : 0 < bytes)
    (v : Value) (xs ys : List Int) (A : Option Addr) (m c : Nat) (hs : a.eval s = v) (hx : a.eval x = .slice A m c)
    (HO : W.ownsRow 0 e 1 v xs.length (nums k xs)) (HR : ReadsInt W k A m ys) (hl : (xs.length + m) * bytes ≤ 140737488355328)
    (h : ∀ v1 w1, w1.ownsRow 0 e 1 v1 (xs ++ ys).length (nums k (xs ++ ys)) → Chg W w1 (blkOf v) → Ext W (blkOf v) (blkOf v1) → wpList P ops Q rest (a.put o.dst v1) w1) :
    wpList P ops Q (o :: rest) a W :=
  print_append_row (w0 := W) 0 hgd s x t e k bytes ho ht hinfo hb0 v xs ys A m c hs hx HO HR (Below.refl 0 W) (Nat.zero_le _) hl
    fun v1 w1 hown _ hg hat => h v1 w1 hown ((Chg.refl W _).grown hg (fun _ hk => .inl hk)) (fun b hb => by
      rcases hat with hat | ⟨b', hb', hle⟩
      · exact .inl (hat.symm.trans hb)
      · exact .inr (by have : b = b' := by have := hb.symm.trans hb'; simpa using this
                       omega))
end
/-- A slice of whole numbers that may be read: nil, or its cells. -/
def Rd (w : World) (k : IntKind) (v : Value) (xs : List Int) : Prop :=
  (v = .slice none 0 0 ∧ xs = []) ∨ ∃ ad c, v = .slice (some ad) xs.length c ∧ xs.length ≤ c ∧ ReadsInt w k (some ad) xs.length xs
theorem Rd.to {w : World} {k : IntKind} {v : Value} {xs : List Int} (h : Rd w k v xs) : ∃ A c, v = .slice A xs.length c ∧ xs.length ≤ c ∧ ReadsInt w k A xs.length xs := by
  rcases h with ⟨hv, hx⟩ | ⟨ad, c, hv, hc, hr⟩
  · subst hx; exact ⟨none, 0, hv, Nat.le_refl _, ReadsInt.nil w k⟩
  · exact ⟨some ad, c, hv, hc, hr⟩
theorem Rd.own {w : World} {k : IntKind} {e : TypeId} {v : Value} {xs : List Int} (h : w.ownsRow 0 e 1 v xs.length (nums k xs)) : Rd w k v xs := by
  rcases h.2 with ⟨hv, hn⟩ | ⟨b, cap, cur, hv, _, _, hc, _⟩
  · exact .inl ⟨hv, List.eq_nil_of_length_eq_zero hn⟩
  · subst hv; exact .inr ⟨_, cap, rfl, hc, own_reads' h⟩
theorem Rd.chg {w w1 : World} {k : IntKind} {v : Value} {xs : List Int} {S : Nat → Prop} (h : Rd w k v xs) (hc : Chg w w1 S) (hd : ∀ b, blkOf v b → ¬ S b) : Rd w1 k v xs := by
  rcases h with h | ⟨ad, c, hv, hcc, hr⟩
  · exact .inl h
  · subst hv
    refine .inr ⟨ad, c, rfl, hcc, hr.1, hr.2.1, fun hn => ?_⟩
    obtain ⟨ad', ha, hx⟩ := hr.2.2 hn
    injection ha with ha
    subst ha
    refine ⟨ad, rfl, fun j hj => ?_⟩
    have h1 := hx j hj
    have hb : (ad.add j).block = ad.block := add_block ad j
    have := hc.block (ad.add j).block (World.block_lt_of_cell? w _ h1) (by rw [hb]; exact hd ad.block rfl)
    simpa [World.cell?, this] using h1
theorem info5 : (Try.prog.info? 5).map (fun i => (i.zero, i.size, i.bytes)) = some (some (.int .u8 0), 1, 1) := by kernel_rfl
end Go.Proofs.Ytiabenmgbikllaa.M
