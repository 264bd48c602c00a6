/- Contracts of the program's functions and plain laws for the law PulseReads, several texts in one (part 12); the program's functions as Lean functions came out of the kit's print. Conditions: each theorem's own. -/
import Derived.Test.YtiabenmgbikllaaQPulseReadsk
-- Q1
namespace Go.Proofs.Ytiabenmgbikllaa.M
set_option linter.unusedVariables false
open Go.RowKit Go.Proofs.YtiabenmgbikllaaW.PrintWords Go.Proofs.YtiabenmgbikllaaW.PrintLast Go.Proofs.YtiabenmgbikllaaW.PrintMore Go.Proofs.Ytiabenmgbikllaa.PAll
attribute [local go_sem] max2_int min2_int max_two min_two max_three min_three max_four min_four

def keyF (ys : List Int) (v : Int) : Int := absI (rd ys v) * 1000 + v
/-- The heap of a run's places lies in block t, the run in block b from off on. -/
structure TopsAt (w : World) (t b off n cap : Nat) (xs at_ : List Int) (av : Value) : Prop where
  blk : w.heap[t]? = some (.cells #[.slice (some ⟨b, off, none⟩) n cap, av] 131 (0, 0))
  own : w.ownsRow 0 3 1 av at_.length (nums .i64 at_)
  row : Blk w b xs
  hn : off + n ≤ xs.length
  hc : n ≤ cap
  ne : t ≠ b
/-- The run. -/
def run_ (xs : List Int) (off n : Nat) : List Int := (xs.drop off).take n
theorem run_rd (xs : List Int) (off n v : Nat) (h : off + n ≤ xs.length) (hv : v < n) : rd (run_ xs off n) v = rd xs ((off + v : Nat) : Int) := by
  rw [← rd_eq, ← rd_eq]
  simp [run_, List.getD, hv, List.getElem?_drop]
theorem run_length (xs : List Int) (off n : Nat) (h : off + n ≤ xs.length) : (run_ xs off n).length = n := by simp [run_]; omega
theorem abs_calls (w : World) (x : Int) (h0 : -1000 ≤ x) (h1 : x ≤ 1000) : Calls Try.prog 128 #[.int .i64 x] w fun r w' => r = .returned (.int .i64 (absI x)) ∧ w' = w := by
  by_cases hx : x < 0
  · have e : absI x = -x := by unfold absI; rw [if_pos hx]
    rw [e]
    go_enter Try.func128, Try.ntmps128
    go_wp2
    go_returns
    exact ⟨by congr 2, rfl⟩
  · have e : absI x = x := by unfold absI; rw [if_neg hx]
    rw [e]
    go_enter Try.func128, Try.ntmps128
    go_wp2
    go_returns
    exact ⟨by congr 2, rfl⟩
set_option maxHeartbeats 400000 in
set_option maxRecDepth 100000 in
theorem tlen_calls (w : World) (t b off n cap : Nat) (xs at_ : List Int) (av : Value) (h : TopsAt w t b off n cap xs at_ av) :
    Calls Try.prog 174 #[.pointer (some ⟨t, 0, none⟩)] w fun r w' => r = .returned (.int .i64 at_.length) ∧ w' = w := by
  obtain ⟨A, c, hv⟩ := own_slice h.own
  have c1 : w.cell? ⟨t, 1, none⟩ = some (.slice A at_.length c) := by rw [← hv]; exact blk_cell h.blk 1
  clear h hv
  go_enter Try.func174, Try.ntmps174
  go_wp2
  go_returns
  exact ⟨rfl, rfl⟩
set_option maxHeartbeats 400000 in
set_option maxRecDepth 100000 in
theorem tless_calls (w : World) (t b off n cap : Nat) (xs at_ : List Int) (av : Value) (h : TopsAt w t b off n cap xs at_ av) (i j : Nat) (hi : i < at_.length) (hj : j < at_.length)
    (ha : ∀ k : Nat, k < at_.length → 0 ≤ rd at_ k ∧ rd at_ k < n) (hx : ∀ k : Nat, k < n → -1000 ≤ rd (run_ xs off n) k ∧ rd (run_ xs off n) k ≤ 1000) (hn : n ≤ 100) :
    Calls Try.prog 175 #[.pointer (some ⟨t, 0, none⟩), .int .i64 i, .int .i64 j] w fun r w' => r = .returned (.bool (decide (keyF (run_ xs off n) (rd at_ j) < keyF (run_ xs off n) (rd at_ i)))) ∧ ∃ m, w' = w.drewN m := by
  obtain ⟨ga, ca, hv⟩ := own_pos h.own (by omega)
  have ho := h.own
  rw [hv] at ho
  have c0 : w.cell? ⟨t, 0, none⟩ = some (.slice (some ⟨b, off, none⟩) n cap) := blk_cell h.blk 0
  have c1 : w.cell? ⟨t, 1, none⟩ = some (.slice (some ⟨ga, 0, none⟩) at_.length ca) := by rw [← hv]; exact blk_cell h.blk 1
  obtain ⟨ai, hai⟩ : ∃ ai : Nat, rd at_ i = ai := ⟨(rd at_ i).toNat, by have := ha i hi; omega⟩
  obtain ⟨aj, haj⟩ : ∃ aj : Nat, rd at_ j = aj := ⟨(rd at_ j).toNat, by have := ha j hj; omega⟩
  have hai' := ha i hi
  have haj' := ha j hj
  have d0 := (own_at ho (i : Int) (by omega) (by omega)).1
  have d1 := (own_at ho (j : Int) (by omega) (by omega)).1
  simp only [Int.toNat_natCast] at d0 d1
  rw [hai] at d0 hai' ⊢
  rw [haj] at d1 haj' ⊢
  have e0 := h.row.cell (off + ai) (by have := h.hn; omega)
  have e1 := h.row.cell (off + aj) (by have := h.hn; omega)
  rw [← run_rd xs off n ai h.hn (by omega)] at e0
  rw [← run_rd xs off n aj h.hn (by omega)] at e1
  have hxi := hx ai (by omega)
  have hxj := hx aj (by omega)
  have hcap := h.hc
  obtain ⟨x, hxx⟩ : ∃ x, x = rd (run_ xs off n) ai := ⟨_, rfl⟩
  obtain ⟨y, hyy⟩ : ∃ y, y = rd (run_ xs off n) aj := ⟨_, rfl⟩
  have HK : Aside0 (keyF (run_ xs off n) (aj : Int) = absI y * 1000 + aj ∧ keyF (run_ xs off n) (ai : Int) = absI x * 1000 + ai) := ⟨by rw [hxx, hyy]; exact ⟨rfl, rfl⟩⟩
  rw [← hxx] at e0 hxi
  rw [← hyy] at e1 hxj
  have hal : at_.length ≤ ca := own_le ho
  rw [HK.out.1, HK.out.2]
  obtain ⟨u, hu⟩ : ∃ u, u = absI x := ⟨_, rfl⟩
  obtain ⟨v, hv'⟩ : ∃ v, v = absI y := ⟨_, rfl⟩
  have hu0 : 0 ≤ u ∧ u ≤ 1000 := by rw [hu]; unfold absI; split <;> omega
  have hv0 : 0 ≤ v ∧ v ≤ 1000 := by rw [hv']; unfold absI; split <;> omega
  have HAX : Aside0 (∀ W, Calls Try.prog 128 #[.int .i64 x] W fun r w' => r = .returned (.int .i64 u) ∧ w' = W) := ⟨fun W => by rw [hu]; exact abs_calls W x hxi.1 hxi.2⟩
  have HAY : Aside0 (∀ W, Calls Try.prog 128 #[.int .i64 y] W fun r w' => r = .returned (.int .i64 v) ∧ w' = W) := ⟨fun W => by rw [hv']; exact abs_calls W y hxj.1 hxj.2⟩
  rw [← hu, ← hv']
  have hb : Aside0 (decide (v * 1000 + (aj : Int) < u * 1000 + ai) = if v < u then true else if u = v then decide ((aj : Int) < ai) else false) := ⟨by
    by_cases h1 : v < u
    · rw [if_pos h1]; simp; omega
    · rw [if_neg h1]
      by_cases h2 : u = v
      · rw [if_pos h2, Bool.eq_iff_iff]; simp; omega
      · rw [if_neg h2]; simp; omega⟩
  rw [hb.out]
  obtain ⟨R, hR⟩ : ∃ R : Bool, R = (if v < u then true else if u = v then decide ((aj : Int) < ai) else false) := ⟨_, rfl⟩
  rw [← hR]
  have HR := Aside0.mk hR
  clear hR
  clear h ho ha hx hai haj hxx hyy hu hv' hb hv
  go_enter Try.func175, Try.ntmps175
  go_wp2_with fail
  go_quiet ((first
    | (go_at_call 128; exact Calls.quiet_of_same (HAX.out _))
    | (go_at_call 128; exact Calls.quiet_of_same (HAY.out _))))
  clear HAX HAY e0 e1 hxi hxj
  by_cases h1 : v < u
  · have HE : Aside0 (R = true) := ⟨by rw [HR.out, if_pos h1]⟩
    have h1b : decide (v < u) = true := by simpa using h1
    go_wp2_with fail
    go_quiet (fail)
    go_wp2_with fail
    go_returns
    exact ⟨by rw [HE.out]; rfl, _, World.drewN_drewN ..⟩
  · have h1b : decide (v < u) = false := by simpa using h1
    by_cases h2 : u = v
    · have HE : Aside0 (R = decide (aj < ai)) := ⟨by rw [HR.out, if_neg h1, if_pos h2]; simp⟩
      subst h2
      go_wp2_with fail
      go_quiet (fail)
      go_wp2_with fail
      go_returns
      exact ⟨by rw [HE.out]; rfl, _, World.drewN_drewN ..⟩
    · have HE : Aside0 (R = false) := ⟨by rw [HR.out, if_neg h1, if_neg h2]⟩
      have h2b : (u == v) = false := by simpa using h2
      clear h2
      go_wp2_with fail
      go_quiet (fail)
      go_wp2_with fail
      go_returns
      exact ⟨by rw [HE.out]; rfl, _, World.drewN_drewN ..⟩
end Go.Proofs.Ytiabenmgbikllaa.M

-- Q2
namespace Go.Proofs.Ytiabenmgbikllaa.M
set_option linter.unusedVariables false
open Go.RowKit Go.Proofs.YtiabenmgbikllaaW.PrintWords Go.Proofs.YtiabenmgbikllaaW.PrintLast Go.Proofs.YtiabenmgbikllaaW.PrintMore Go.Proofs.Ytiabenmgbikllaa.PAll
attribute [local go_sem] max2_int min2_int max_two min_two max_three min_three max_four min_four

theorem TopsAt.chg {w w1 : World} {S : Nat → Prop} {t b off n cap : Nat} {xs at_ : List Int} {av : Value} (h : TopsAt w t b off n cap xs at_ av) (k : Chg w w1 S) (ht : ¬ S t) (hb : ¬ S b) (ha : ∀ c, blkOf av c → ¬ S c) : TopsAt w1 t b off n cap xs at_ av :=
  ⟨k.blk h.blk ht, k.own h.own ha, h.row.chg k hb, h.hn, h.hc, h.ne⟩
theorem TopsAt.atne {w : World} {t b off n cap : Nat} {xs at_ : List Int} {av : Value} (h : TopsAt w t b off n cap xs at_ av) : ¬ blkOf av t ∧ ¬ blkOf av b :=
  ⟨fun hh => own_ne h.own h.blk (by decide) hh.symm, fun hh => own_ne h.own h.row (by decide) hh.symm⟩
set_option maxHeartbeats 1000000 in
set_option maxRecDepth 100000 in
theorem tswap_calls (w : World) (t b off n cap : Nat) (xs at_ : List Int) (av : Value) (h : TopsAt w t b off n cap xs at_ av) (i j : Nat) (hi : i < at_.length) (hj : j < at_.length) (hij : i ≠ j) (hn : at_.length ≤ 1000) :
    Calls Try.prog 177 #[.pointer (some ⟨t, 0, none⟩), .int .i64 i, .int .i64 j] w fun r w' => r = .returned (.tuple #[]) ∧ TopsAt w' t b off n cap xs (swapL at_ i j) av ∧ Chg w w' (blkOf av) := by
  obtain ⟨ga, ca, hv⟩ := own_pos h.own (by omega)
  have ho := h.own
  rw [hv] at ho
  have c1 : w.cell? ⟨t, 1, none⟩ = some (.slice (some ⟨ga, 0, none⟩) at_.length ca) := by rw [← hv]; exact blk_cell h.blk 1
  obtain ⟨d0, z0⟩ := own_at ho (i : Int) (by omega) (by omega)
  obtain ⟨d1, z1⟩ := own_at ho (j : Int) (by omega) (by omega)
  simp only [Int.toNat_natCast] at d0 d1 z0 z1
  obtain ⟨x, hx⟩ : ∃ x, x = rd at_ i := ⟨_, rfl⟩
  obtain ⟨y, hy⟩ : ∃ y, y = rd at_ j := ⟨_, rfl⟩
  rw [← hx] at d0
  rw [← hy] at d1
  have hal : at_.length ≤ ca := own_le ho
  have hgt : ga ≠ t := fun hh => h.atne.1 (by rw [hv, ← hh]; rfl)
  have s1 := (own_store ho (i : Int) y).1
  simp only [Int.toNat_natCast] at s1
  have hl1 : (at_.set i y).length = at_.length := by simp
  rw [← hl1] at s1
  have s2 := (own_store s1 (j : Int) x).1
  simp only [Int.toNat_natCast] at s2
  rw [hl1] at s2
  have HW : Aside0 (TopsAt (((w.setCell ⟨ga, i, none⟩ (.int .i64 y)).setCell ⟨ga, j, none⟩ (.int .i64 x)).drew) t b off n cap xs (swapL at_ i j) av ∧ Chg w (((w.setCell ⟨ga, i, none⟩ (.int .i64 y)).setCell ⟨ga, j, none⟩ (.int .i64 x)).drew) (blkOf av)) := by
    have k : Chg w (((w.setCell ⟨ga, i, none⟩ (.int .i64 y)).setCell ⟨ga, j, none⟩ (.int .i64 x)).drew) (blkOf av) :=
      (((Chg.refl w (blkOf av)).setCell (p := ⟨ga, i, none⟩) (.inl (by rw [hv]; rfl)) _).setCell (p := ⟨ga, j, none⟩) (.inl (by rw [hv]; rfl)) _).drew
    refine ⟨⟨k.blk h.blk h.atne.1, ?_, h.row.chg k h.atne.2, h.hn, h.hc, h.ne⟩, k⟩
    have e : swapL at_ i j = (at_.set i y).set j x := by rw [hx, hy]; rfl
    rw [e, hv, show ((at_.set i y).set j x).length = at_.length by simp]
    exact s2
  clear h ho hv hx hy s1 s2 hl1
  go_enter Try.func177, Try.ntmps177
  go_wp2_with fail
  go_region
  all_goals
    go_wp2_with fail
    go_returns
    exact ⟨rfl, HW.out⟩
set_option maxHeartbeats 1000000 in
set_option maxRecDepth 100000 in
theorem tpush_calls (w : World) (t b off n cap : Nat) (xs at_ : List Int) (av : Value) (h : TopsAt w t b off n cap xs at_ av) (k : Int) (hn : at_.length ≤ 1000) :
    Calls Try.prog 176 #[.pointer (some ⟨t, 0, none⟩), .iface 3 (.int .i64 k)] w fun r w' => r = .returned (.tuple #[]) ∧ ∃ av', TopsAt w' t b off n cap xs (at_ ++ [k]) av' ∧ Chg w w' (fun c => c = t ∨ blkOf av c) ∧ Ext w (blkOf av) (blkOf av') := by
  have c1 : w.cell? ⟨t, 1, none⟩ = some av := blk_cell h.blk 1
  have z1 : w.frozen? ⟨t, 1, none⟩ = false := blk_frozen h.blk 1
  have hts := blk_lt h.blk
  have HO := Aside0.mk h.own
  have HH := Aside0.mk h
  clear h
  have hta : ∀ W : World, (Instr.typeAssert (.iface 3 (.int .i64 k)) 20 3 false).run Try.prog W = .ok (.int .i64 k) W := fun W => by simp [Instr.typeAssert, run_underlying Try.underlying3]
  go_enter Try.func176, Try.ntmps176
  go_wp2_with fail
  go_region_law (
    refine app1s rfl (.tmp 8) (.tmp 11) 32 3 .i64 8 rfl Try.underlying32 info3' (by omega) av at_ k w.heap.size rfl rfl (by go_simp) (own_alloc HO.out _) (by omega) ?_
    intro v1 w1 ho hc hx
    have hc' := (((Chg.refl w (blkOf av)).alloc _).drew).trans hc (Ext.refl _ _)
    have hx' : Ext w (blkOf av) (blkOf v1) := hx.le (by simp)
    have hb1 := hc'.blk HH.out.blk HH.out.atne.1
    have q1 : w1.cell? ⟨t, 1, none⟩ = some av := blk_cell hb1 1
    have qf : w1.frozen? ⟨t, 1, none⟩ = false := blk_frozen hb1 1
    obtain ⟨b1, k1, hv1⟩ := own_pos ho (by simp)
    rw [List.length_append, List.length_singleton] at hv1
    subst hv1
    have HN := Aside0.mk (And.intro ho (And.intro hc' hx'))
    clear hc hx hc' hx' ho c1 z1 HO hb1)
  all_goals
    have HF : Aside0 (TopsAt (w1.setCell ⟨t, 1, none⟩ (.slice (some ⟨b1, 0, none⟩) (at_.length + 1) k1)) t b off n cap xs (at_ ++ [k]) (.slice (some ⟨b1, 0, none⟩) (at_.length + 1) k1) ∧ Chg w (w1.setCell ⟨t, 1, none⟩ (.slice (some ⟨b1, 0, none⟩) (at_.length + 1) k1)) (fun c => c = t ∨ blkOf av c)) := by
      obtain ⟨ho, hc, hx⟩ := HN.out
      have hb1 := hc.blk HH.out.blk HH.out.atne.1
      have hrow := HH.out.row.chg hc HH.out.atne.2
      have n1 : b1 ≠ t := fun hh => own_ne ho hb1 (by decide) (by rw [← hh]; rfl)
      refine ⟨⟨blk_put hb1 1 _ rfl, own_setCell ho (fun hh => n1 (Eq.symm (by simpa [Value.ownBlock] using hh))) _, blk_far hrow (fun hh => HH.out.ne hh.symm) _, HH.out.hn, HH.out.hc, HH.out.ne⟩, ?_⟩
      exact (hc.mono (fun _ h => .inr h)).setCell (p := ⟨t, 1, none⟩) (.inl (.inl rfl)) _
    have HX := Aside0.mk HN.out.2.2
    clear HN
    go_wp2_with fail
    go_returns
    exact ⟨rfl, _, HF.out.1, HF.out.2, HX.out⟩
end Go.Proofs.Ytiabenmgbikllaa.M

-- Q3
namespace Go.Proofs.Ytiabenmgbikllaa.M
set_option linter.unusedVariables false
open Go.RowKit Go.Proofs.YtiabenmgbikllaaW.PrintWords Go.Proofs.YtiabenmgbikllaaW.PrintLast Go.Proofs.YtiabenmgbikllaaW.PrintMore Go.Proofs.Ytiabenmgbikllaa.PAll
attribute [local go_sem] max2_int min2_int max_two min_two max_three min_three max_four min_four

/-- Places of a run of n. -/
def InR (at_ : List Int) (n : Nat) : Prop := ∀ k : Nat, k < at_.length → 0 ≤ rd at_ k ∧ rd at_ k < n
def InX (ys : List Int) (n : Nat) : Prop := ∀ k : Nat, k < n → -1000 ≤ rd ys k ∧ rd ys k ≤ 1000
theorem InR.swap {at_ : List Int} {n : Nat} (h : InR at_ n) (i j : Nat) (hi : i < at_.length) (hj : j < at_.length) : InR (swapL at_ i j) n := by
  intro k hk
  rw [swapL_length] at hk
  rw [rd_swap _ _ _ _ hi hj]
  split
  · exact h i hi
  · split
    · exact h j hj
    · exact h k hk
theorem tlessR_calls (w : World) (t b off n cap : Nat) (xs at_ : List Int) (av : Value) (h : TopsAt w t b off n cap xs at_ av) (i j : Nat) (hi : i < at_.length) (hj : j < at_.length) (ha : InR at_ n) (hx : InX (run_ xs off n) n) (hn : n ≤ 100) :
    Calls Try.prog 175 #[.pointer (some ⟨t, 0, none⟩), .int .i64 i, .int .i64 j] w fun r w' => r = .returned (.bool (decide (keyF (run_ xs off n) (rd at_ j) < keyF (run_ xs off n) (rd at_ i)))) ∧ ∃ m, w' = w.drewN m :=
  tless_calls w t b off n cap xs at_ av h i j hi hj ha hx hn
theorem TopsAt.drew {w : World} {t b off n cap : Nat} {xs at_ : List Int} {av : Value} (h : TopsAt w t b off n cap xs at_ av) (m : Nat) : TopsAt (w.drewN m) t b off n cap xs at_ av :=
  h.chg ((Chg.refl w No).drewN m) (fun h => h) (fun h => h) (fun _ _ h => h)
set_option maxHeartbeats 400000 in
set_option maxRecDepth 100000 in
theorem up_calls (w : World) (t b off n cap : Nat) (xs at_ : List Int) (av : Value) (h : TopsAt w t b off n cap xs at_ av) (j : Nat) (hj : j < at_.length) (ha : InR at_ n) (hx : InX (run_ xs off n) n) (hn : n ≤ 100) (hl : at_.length ≤ 100) :
    Calls Try.prog 148 #[.iface 129 (.pointer (some ⟨t, 0, none⟩)), .int .i64 j] w fun r w' => r = .returned (.tuple #[]) ∧ TopsAt w' t b off n cap xs (upL (keyF (run_ xs off n)) j at_ j) av ∧ Chg w w' (blkOf av) := by
  obtain ⟨R, hR⟩ : ∃ R, R = upL (keyF (run_ xs off n)) j at_ j := ⟨_, rfl⟩
  obtain ⟨M, hM⟩ : ∃ M, M = at_.length := ⟨_, rfl⟩
  have HS : Aside0 (TopsAt w t b off n cap xs at_ av ∧ InR at_ n ∧ at_.length = M ∧ Chg w w (blkOf av) ∧ upL (keyF (run_ xs off n)) j at_ j = R) := ⟨h, ha, hM.symm, Chg.refl _ _, hR.symm⟩
  rw [← hR]
  rw [← hM] at hj hl
  have HX := Aside0.mk hx
  clear h ha hx hR hM
  go_enter Try.func148, Try.ntmps148
  go_wp2_with fail
  go_loopg [1] j (fun k u1 wr => ∃ (i : Nat) (l : List Int), u1 = .int .i64 (i : Int) ∧ i ≤ k ∧ i < M ∧ Aside0 (TopsAt wr t b off n cap xs l av ∧ InR l n ∧ l.length = M ∧ Chg w wr (blkOf av) ∧ upL (keyF (run_ xs off n)) k l i = R))
  case atStart => exact ⟨j, at_, rfl, Nat.le_refl _, hj, HS⟩
  case round =>
    clear HS
    obtain ⟨i, l, rfl, hik, hil, HR⟩ := hrel
    by_cases hz : i = 0
    · have HF : Aside0 (TopsAt wr t b off n cap xs R av ∧ Chg w wr (blkOf av)) := by
        obtain ⟨a1, a2, a3, a4, a5⟩ := HR.out
        have e : upL (keyF (run_ xs off n)) gk l i = l := by
          cases gk with
          | zero => rfl
          | succ k => unfold upL; rw [if_pos (.inl (by rw [hz]; rfl))]
        rw [e] at a5
        rw [← a5]
        exact ⟨a1, a4⟩
      subst hz
      clear HR
      go_wp2_with fail
      go_returns
      exact ⟨rfl, HF.out⟩
    · obtain ⟨p, hp⟩ : ∃ p, p = par i := ⟨_, rfl⟩
      have hpi : ((i : Int) - 1) / 2 = (p : Int) := by rw [hp]; unfold par; omega
      have hpl : p < i := by rw [hp]; exact par_lt i (by omega)
      have hne : ((p : Int) == (i : Int)) = false := by simp; omega
      obtain ⟨k, hk⟩ : ∃ k, gk = k + 1 := ⟨gk - 1, by omega⟩
      have HP := Aside0.mk (And.intro hp hk)
      clear hp hk
      by_cases hless : keyF (run_ xs off n) (rd l p) < keyF (run_ xs off n) (rd l i)
      · have HD : Aside0 (decide (keyF (run_ xs off n) (rd l p) < keyF (run_ xs off n) (rd l i)) = true ∧ upL (keyF (run_ xs off n)) gk l i = upL (keyF (run_ xs off n)) (gk - 1) (swapL l p i) p) := ⟨by simpa using hless, by
          rw [HP.out.2]
          show (if par i = i ∨ _ then l else upL _ k (swapL l (par i) i) (par i)) = _
          rw [← HP.out.1, if_neg (by simp only [not_or, Classical.not_not]; exact ⟨by omega, hless⟩)]
          rfl⟩
        clear hless
        go_wp2_with fail
        with_reducible refine (tlessR_calls wr t b off n cap xs l av HR.out.1 i p (by rw [HR.out.2.2.1]; exact hil) (by rw [HR.out.2.2.1]; omega) HR.out.2.1 HX.out hn).mono ?_
        rintro r w1 ⟨rfl, m, rfl⟩
        rw [HD.out.1]
        go_wp2_with fail
        with_reducible refine (tswap_calls (wr.drewN m) t b off n cap xs l av (HR.out.1.drew m) p i (by rw [HR.out.2.2.1]; omega) (by rw [HR.out.2.2.1]; exact hil) (by omega) (by rw [HR.out.2.2.1]; omega)).mono ?_
        rintro r w2 ⟨rfl, h2, c2⟩
        have HT : Aside0 (TopsAt w2 t b off n cap xs (swapL l p i) av ∧ InR (swapL l p i) n ∧ (swapL l p i).length = M ∧ Chg w w2 (blkOf av) ∧ upL (keyF (run_ xs off n)) (gk - 1) (swapL l p i) p = R) :=
          ⟨h2, HR.out.2.1.swap p i (by rw [HR.out.2.2.1]; omega) (by rw [HR.out.2.2.1]; exact hil), by rw [swapL_length]; exact HR.out.2.2.1, (HR.out.2.2.2.1.drewN m).trans c2 (Ext.refl _ _), by rw [← HD.out.2]; exact HR.out.2.2.2.2⟩
        clear h2 c2 HD
        go_wp2_with fail
        go_roundg (gk - 1)
        case measure => have := HP.out.2; omega
        case rel => exact ⟨p, swapL l p i, rfl, by have := HP.out.2; omega, by omega, HT⟩
      · have HD : Aside0 (decide (keyF (run_ xs off n) (rd l p) < keyF (run_ xs off n) (rd l i)) = false ∧ upL (keyF (run_ xs off n)) gk l i = l) := ⟨by simpa using hless, by
          rw [HP.out.2]
          show (if par i = i ∨ _ then l else upL _ k (swapL l (par i) i) (par i)) = _
          rw [← HP.out.1, if_pos (.inr hless)]⟩
        clear hless
        go_wp2_with fail
        with_reducible refine (tlessR_calls wr t b off n cap xs l av HR.out.1 i p (by rw [HR.out.2.2.1]; exact hil) (by rw [HR.out.2.2.1]; omega) HR.out.2.1 HX.out hn).mono ?_
        rintro r w1 ⟨rfl, m, rfl⟩
        rw [HD.out.1]
        have HF : Aside0 (TopsAt (wr.drewN m) t b off n cap xs R av ∧ Chg w (wr.drewN m) (blkOf av)) := by
          obtain ⟨a1, a2, a3, a4, a5⟩ := HR.out
          rw [HD.out.2] at a5
          rw [← a5]
          exact ⟨a1.chg ((Chg.refl wr No).drewN m) (fun h => h) (fun h => h) (fun _ _ h => h), a4.drewN m⟩
        clear HR HD
        go_wp2_with fail
        go_returns
        exact ⟨rfl, HF.out⟩
end Go.Proofs.Ytiabenmgbikllaa.M

-- Q4
namespace Go.Proofs.Ytiabenmgbikllaa.M
set_option linter.unusedVariables false
open Go.RowKit Go.Proofs.YtiabenmgbikllaaW.PrintWords Go.Proofs.YtiabenmgbikllaaW.PrintLast Go.Proofs.YtiabenmgbikllaaW.PrintMore Go.Proofs.Ytiabenmgbikllaa.PAll
attribute [local go_sem] max2_int min2_int max_two min_two max_three min_three max_four min_four

theorem InR.snoc {at_ : List Int} {n : Nat} (h : InR at_ n) (k : Int) (k0 : 0 ≤ k) (k1 : k < n) : InR (at_ ++ [k]) n := by
  intro i hi
  rw [← rd_eq]
  simp only [List.length_append, List.length_cons, List.length_nil] at hi
  by_cases hc : i < at_.length
  · have := h i hc
    rw [← rd_eq] at this
    simpa [List.getD, List.getElem?_append_left hc] using this
  · have e : i = at_.length := by omega
    subst e
    simp [List.getD]
    exact ⟨k0, k1⟩
set_option maxHeartbeats 400000 in
set_option maxRecDepth 100000 in
theorem hpush_calls (w : World) (t b off n cap : Nat) (xs at_ : List Int) (av : Value) (h : TopsAt w t b off n cap xs at_ av) (k : Int) (k0 : 0 ≤ k) (k1 : k < n) (ha : InR at_ n) (hx : InX (run_ xs off n) n) (hn : n ≤ 100) (hl : at_.length ≤ 90) :
    Calls Try.prog 131 #[.iface 129 (.pointer (some ⟨t, 0, none⟩)), .iface 3 (.int .i64 k)] w fun r w' => r = .returned (.tuple #[]) ∧ ∃ av', TopsAt w' t b off n cap xs (upL (keyF (run_ xs off n)) at_.length (at_ ++ [k]) at_.length) av' ∧ Chg w w' (fun c => c = t ∨ blkOf av c) ∧ Ext w (blkOf av) (blkOf av') := by
  have HH := Aside0.mk (And.intro h (And.intro ha hx))
  clear h ha hx
  obtain ⟨M, hM⟩ : ∃ M, M = at_.length := ⟨_, rfl⟩
  have HM := Aside0.mk hM
  rw [← hM] at hl ⊢
  clear hM
  go_enter Try.func131, Try.ntmps131
  go_wp2_with fail
  with_reducible refine (tpush_calls w t b off n cap xs at_ av HH.out.1 k (by have := HM.out; omega)).mono ?_
  rintro r w1 ⟨rfl, av1, h1, c1, x1⟩
  have H1 := Aside0.mk (And.intro h1 (And.intro c1 x1))
  clear h1 c1 x1
  go_wp2_with fail
  have HLn := tlen_calls w1 t b off n cap xs (at_ ++ [k]) av1 H1.out.1
  rw [show (((at_ ++ [k]).length : Nat) : Int) = (M : Int) + 1 by have := HM.out; simp; omega] at HLn
  with_reducible refine HLn.mono ?_
  clear HLn
  rintro r w2 ⟨rfl, rfl⟩
  go_wp2_with fail
  refine (up_calls w2 t b off n cap xs (at_ ++ [k]) av1 H1.out.1 M (by have := HM.out; simp; omega) (HH.out.2.1.snoc k k0 k1) HH.out.2.2 hn (by have := HM.out; simp; omega)).mono ?_
  rintro r w3 ⟨rfl, h3, c3⟩
  have H3 := Aside0.mk (And.intro h3 c3)
  clear h3 c3
  go_wp2_with fail
  go_returns
  exact ⟨rfl, av1, H3.out.1, H1.out.2.1.trans H3.out.2 (fun c hc => (H1.out.2.2 c hc).elim (fun h => .inl (.inr h)) .inr), H1.out.2.2⟩
set_option maxHeartbeats 1000000 in
set_option maxRecDepth 100000 in
theorem down_calls (w : World) (t b off n cap : Nat) (xs at_ : List Int) (av : Value) (h : TopsAt w t b off n cap xs at_ av) (i0 m : Nat) (hm : m = at_.length) (hj : i0 < m) (ha : InR at_ n) (hx : InX (run_ xs off n) n) (hn : n ≤ 100) (hl : m ≤ 100) :
    Calls Try.prog 149 #[.iface 129 (.pointer (some ⟨t, 0, none⟩)), .int .i64 i0, .int .i64 m] w fun r w' => r = .returned (.bool (decide (i0 < (downL (keyF (run_ xs off n)) m m at_ i0).2))) ∧ TopsAt w' t b off n cap xs (downL (keyF (run_ xs off n)) m m at_ i0).1 av ∧ Chg w w' (blkOf av) := by
  obtain ⟨R, hR⟩ : ∃ R, R = downL (keyF (run_ xs off n)) m m at_ i0 := ⟨_, rfl⟩
  have HS : Aside0 (TopsAt w t b off n cap xs at_ av ∧ InR at_ n ∧ at_.length = m ∧ Chg w w (blkOf av) ∧ downL (keyF (run_ xs off n)) m m at_ i0 = R) := ⟨h, ha, hm.symm, Chg.refl _ _, hR.symm⟩
  rw [← hR]
  have HX := Aside0.mk hx
  clear h ha hx hR hm
  go_enter Try.func149, Try.ntmps149
  go_wp2_with fail
  go_loopg [7] m (fun k u7 wr => ∃ (i : Nat) (l : List Int), u7 = .int .i64 (i : Int) ∧ m ≤ i + k ∧ i < m ∧ Aside0 (TopsAt wr t b off n cap xs l av ∧ InR l n ∧ l.length = m ∧ Chg w wr (blkOf av) ∧ downL (keyF (run_ xs off n)) m k l i = R))
  case atStart => exact ⟨i0, at_, rfl, by omega, hj, HS⟩
  case round =>
    clear HS
    obtain ⟨i, l, rfl, hik, hil, HR⟩ := hrel
    obtain ⟨k, hk⟩ : ∃ k, gk = k + 1 := ⟨gk - 1, by omega⟩
    have HK := Aside0.mk hk
    clear hk
    obtain ⟨j1, hj1⟩ : ∃ j1 : Nat, j1 = 2 * i + 1 := ⟨_, rfl⟩
    have e1 : 2 * (i : Int) + 1 = (j1 : Int) := by omega
    have HJ := Aside0.mk hj1
    clear hj1
    by_cases hend : m ≤ j1
    · have HF : Aside0 (TopsAt wr t b off n cap xs R.1 av ∧ Chg w wr (blkOf av) ∧ R.2 = i) := by
        obtain ⟨a1, a2, a3, a4, a5⟩ := HR.out
        rw [HK.out] at a5
        have e : downL (keyF (run_ xs off n)) m (k + 1) l i = (l, i) := by show (if m ≤ 2 * i + 1 then _ else _) = _; rw [if_pos (by have := HJ.out; omega)]
        rw [e] at a5
        rw [← a5]
        exact ⟨a1, a4, rfl⟩
      clear HR
      go_wp2_with fail
      go_returns
      exact ⟨by rw [HF.out.2.2]; simp, HF.out.1, HF.out.2.1⟩
    · have hj1m : j1 < m := by omega
      obtain ⟨j2, hj2⟩ : ∃ j2 : Nat, j2 = j1 + 1 := ⟨_, rfl⟩
      have e2 : (j1 : Int) + 1 = (j2 : Int) := by omega
      have HJ2 := Aside0.mk hj2
      clear hj2 hend
      have HD : Aside0 (downL (keyF (run_ xs off n)) m gk l i = if ¬ keyF (run_ xs off n) (rd l i) < keyF (run_ xs off n) (rd l (big (keyF (run_ xs off n)) l m i : Nat)) then (l, i) else downL (keyF (run_ xs off n)) m (gk - 1) (swapL l i (big (keyF (run_ xs off n)) l m i)) (big (keyF (run_ xs off n)) l m i)) := ⟨by
        rw [HK.out]
        show (if m ≤ 2 * i + 1 then _ else _) = _
        rw [if_neg (by have := HJ.out; omega)]
        rfl⟩
      by_cases h2m : j2 < m
      · by_cases hless : keyF (run_ xs off n) (rd l j1) < keyF (run_ xs off n) (rd l j2)
        · have HB : Aside0 (big (keyF (run_ xs off n)) l m i = j2 ∧ decide (keyF (run_ xs off n) (rd l j1) < keyF (run_ xs off n) (rd l j2)) = true) := ⟨by
            unfold big
            have q1 := HJ.out
            have q2 := HJ2.out
            rw [show 2 * i + 2 = j2 by omega, show 2 * i + 1 = j1 by omega, if_pos ⟨h2m, hless⟩], by simpa using hless⟩
          clear hless
          go_wp2_with fail
          with_reducible refine (tlessR_calls wr t b off n cap xs l av HR.out.1 j2 j1 (by rw [HR.out.2.2.1]; exact h2m) (by rw [HR.out.2.2.1]; exact hj1m) HR.out.2.1 HX.out hn).mono ?_
          rintro r w1 ⟨rfl, mm, rfl⟩
          rw [HB.out.2]
          obtain ⟨wq, hwq⟩ : ∃ wq, wq = wr.drewN mm := ⟨_, rfl⟩
          have HQ : Aside0 (TopsAt wq t b off n cap xs l av ∧ Chg w wq (blkOf av)) := ⟨by rw [hwq]; exact ⟨HR.out.1.drew mm, HR.out.2.2.2.1.drewN mm⟩⟩
          rw [← hwq]
          clear hwq
          by_cases hl2 : keyF (run_ xs off n) (rd l i) < keyF (run_ xs off n) (rd l j2)
          · have HE : Aside0 (decide (keyF (run_ xs off n) (rd l i) < keyF (run_ xs off n) (rd l j2)) = true ∧ downL (keyF (run_ xs off n)) m (gk - 1) (swapL l i j2) j2 = R) := ⟨by simpa using hl2, by
              rw [← HR.out.2.2.2.2, HD.out, HB.out.1, if_neg (by simpa using hl2)]⟩
            clear hl2
            go_wp2_with fail
            with_reducible refine (tlessR_calls wq t b off n cap xs l av HQ.out.1 j2 i (by rw [HR.out.2.2.1]; exact h2m) (by rw [HR.out.2.2.1]; exact hil) HR.out.2.1 HX.out hn).mono ?_
            rintro r w2 ⟨rfl, mm2, rfl⟩
            rw [HE.out.1]
            go_wp2_with fail
            with_reducible refine (tswap_calls (wq.drewN mm2) t b off n cap xs l av (HQ.out.1.drew mm2) i j2 (by rw [HR.out.2.2.1]; exact hil) (by rw [HR.out.2.2.1]; exact h2m) (by have := HJ.out; have := HJ2.out; omega) (by rw [HR.out.2.2.1]; omega)).mono ?_
            rintro r w3 ⟨rfl, h3, c3⟩
            have HT : Aside0 (TopsAt w3 t b off n cap xs (swapL l i j2) av ∧ InR (swapL l i j2) n ∧ (swapL l i j2).length = m ∧ Chg w w3 (blkOf av) ∧ downL (keyF (run_ xs off n)) m (gk - 1) (swapL l i j2) j2 = R) :=
              ⟨h3, HR.out.2.1.swap i j2 (by rw [HR.out.2.2.1]; exact hil) (by rw [HR.out.2.2.1]; exact h2m), by rw [swapL_length]; exact HR.out.2.2.1, (HQ.out.2.drewN mm2).trans c3 (Ext.refl _ _), HE.out.2⟩
            clear h3 c3 HE
            go_wp2_with fail
            go_roundg (gk - 1)
            case measure => have := HK.out; omega
            case rel => exact ⟨j2, swapL l i j2, rfl, by have := HK.out; have := HJ.out; have := HJ2.out; omega, h2m, HT⟩
          · have HE : Aside0 (decide (keyF (run_ xs off n) (rd l i) < keyF (run_ xs off n) (rd l j2)) = false ∧ (l, i) = R) := ⟨by simpa using hl2, by
              rw [← HR.out.2.2.2.2, HD.out, HB.out.1, if_pos (by simpa using hl2)]⟩
            clear hl2
            go_wp2_with fail
            with_reducible refine (tlessR_calls wq t b off n cap xs l av HQ.out.1 j2 i (by rw [HR.out.2.2.1]; exact h2m) (by rw [HR.out.2.2.1]; exact hil) HR.out.2.1 HX.out hn).mono ?_
            rintro r w2 ⟨rfl, mm2, rfl⟩
            rw [HE.out.1]
            have HF : Aside0 (TopsAt (wq.drewN mm2) t b off n cap xs R.1 av ∧ Chg w (wq.drewN mm2) (blkOf av) ∧ R.2 = i) := by
              rw [← HE.out.2]
              exact ⟨HQ.out.1.drew mm2, HQ.out.2.drewN mm2, rfl⟩
            clear HR HE HQ
            go_wp2_with fail
            go_returns
            exact ⟨by rw [HF.out.2.2]; simp, HF.out.1, HF.out.2.1⟩
        · have HB : Aside0 (big (keyF (run_ xs off n)) l m i = j1 ∧ decide (keyF (run_ xs off n) (rd l j1) < keyF (run_ xs off n) (rd l j2)) = false) := ⟨by
            unfold big
            have q1 := HJ.out
            have q2 := HJ2.out
            rw [show 2 * i + 2 = j2 by omega, show 2 * i + 1 = j1 by omega, if_neg (fun hh => hless hh.2)], by simpa using hless⟩
          clear hless
          go_wp2_with fail
          with_reducible refine (tlessR_calls wr t b off n cap xs l av HR.out.1 j2 j1 (by rw [HR.out.2.2.1]; exact h2m) (by rw [HR.out.2.2.1]; exact hj1m) HR.out.2.1 HX.out hn).mono ?_
          rintro r w1 ⟨rfl, mm, rfl⟩
          rw [HB.out.2]
          obtain ⟨wq, hwq⟩ : ∃ wq, wq = wr.drewN mm := ⟨_, rfl⟩
          have HQ : Aside0 (TopsAt wq t b off n cap xs l av ∧ Chg w wq (blkOf av)) := ⟨by rw [hwq]; exact ⟨HR.out.1.drew mm, HR.out.2.2.2.1.drewN mm⟩⟩
          rw [← hwq]
          clear hwq
          by_cases hl2 : keyF (run_ xs off n) (rd l i) < keyF (run_ xs off n) (rd l j1)
          · have HE : Aside0 (decide (keyF (run_ xs off n) (rd l i) < keyF (run_ xs off n) (rd l j1)) = true ∧ downL (keyF (run_ xs off n)) m (gk - 1) (swapL l i j1) j1 = R) := ⟨by simpa using hl2, by
              rw [← HR.out.2.2.2.2, HD.out, HB.out.1, if_neg (by simpa using hl2)]⟩
            clear hl2
            go_wp2_with fail
            with_reducible refine (tlessR_calls wq t b off n cap xs l av HQ.out.1 j1 i (by rw [HR.out.2.2.1]; exact hj1m) (by rw [HR.out.2.2.1]; exact hil) HR.out.2.1 HX.out hn).mono ?_
            rintro r w2 ⟨rfl, mm2, rfl⟩
            rw [HE.out.1]
            go_wp2_with fail
            with_reducible refine (tswap_calls (wq.drewN mm2) t b off n cap xs l av (HQ.out.1.drew mm2) i j1 (by rw [HR.out.2.2.1]; exact hil) (by rw [HR.out.2.2.1]; exact hj1m) (by have := HJ.out; have := HJ2.out; omega) (by rw [HR.out.2.2.1]; omega)).mono ?_
            rintro r w3 ⟨rfl, h3, c3⟩
            have HT : Aside0 (TopsAt w3 t b off n cap xs (swapL l i j1) av ∧ InR (swapL l i j1) n ∧ (swapL l i j1).length = m ∧ Chg w w3 (blkOf av) ∧ downL (keyF (run_ xs off n)) m (gk - 1) (swapL l i j1) j1 = R) :=
              ⟨h3, HR.out.2.1.swap i j1 (by rw [HR.out.2.2.1]; exact hil) (by rw [HR.out.2.2.1]; exact hj1m), by rw [swapL_length]; exact HR.out.2.2.1, (HQ.out.2.drewN mm2).trans c3 (Ext.refl _ _), HE.out.2⟩
            clear h3 c3 HE
            go_wp2_with fail
            go_roundg (gk - 1)
            case measure => have := HK.out; omega
            case rel => exact ⟨j1, swapL l i j1, rfl, by have := HK.out; have := HJ.out; have := HJ2.out; omega, hj1m, HT⟩
          · have HE : Aside0 (decide (keyF (run_ xs off n) (rd l i) < keyF (run_ xs off n) (rd l j1)) = false ∧ (l, i) = R) := ⟨by simpa using hl2, by
              rw [← HR.out.2.2.2.2, HD.out, HB.out.1, if_pos (by simpa using hl2)]⟩
            clear hl2
            go_wp2_with fail
            with_reducible refine (tlessR_calls wq t b off n cap xs l av HQ.out.1 j1 i (by rw [HR.out.2.2.1]; exact hj1m) (by rw [HR.out.2.2.1]; exact hil) HR.out.2.1 HX.out hn).mono ?_
            rintro r w2 ⟨rfl, mm2, rfl⟩
            rw [HE.out.1]
            have HF : Aside0 (TopsAt (wq.drewN mm2) t b off n cap xs R.1 av ∧ Chg w (wq.drewN mm2) (blkOf av) ∧ R.2 = i) := by
              rw [← HE.out.2]
              exact ⟨HQ.out.1.drew mm2, HQ.out.2.drewN mm2, rfl⟩
            clear HR HE HQ
            go_wp2_with fail
            go_returns
            exact ⟨by rw [HF.out.2.2]; simp, HF.out.1, HF.out.2.1⟩
      · have HB : Aside0 (big (keyF (run_ xs off n)) l m i = j1 ∧ True) := ⟨by
            unfold big
            have q1 := HJ.out
            have q2 := HJ2.out
            rw [show 2 * i + 2 = j2 by omega, show 2 * i + 1 = j1 by omega, if_neg (fun hh => h2m hh.1)], trivial⟩
        have h2b : decide (j2 < m) = false := by simpa using h2m
        obtain ⟨wq, rfl⟩ : ∃ wq, wq = wr := ⟨_, rfl⟩
        have HQ : Aside0 (TopsAt wq t b off n cap xs l av ∧ Chg w wq (blkOf av)) := ⟨HR.out.1, HR.out.2.2.2.1⟩
        by_cases hl2 : keyF (run_ xs off n) (rd l i) < keyF (run_ xs off n) (rd l j1)
        · have HE : Aside0 (decide (keyF (run_ xs off n) (rd l i) < keyF (run_ xs off n) (rd l j1)) = true ∧ downL (keyF (run_ xs off n)) m (gk - 1) (swapL l i j1) j1 = R) := ⟨by simpa using hl2, by
            rw [← HR.out.2.2.2.2, HD.out, HB.out.1, if_neg (by simpa using hl2)]⟩
          clear hl2
          go_wp2_with fail
          with_reducible refine (tlessR_calls wq t b off n cap xs l av HQ.out.1 j1 i (by rw [HR.out.2.2.1]; exact hj1m) (by rw [HR.out.2.2.1]; exact hil) HR.out.2.1 HX.out hn).mono ?_
          rintro r w2 ⟨rfl, mm2, rfl⟩
          rw [HE.out.1]
          go_wp2_with fail
          with_reducible refine (tswap_calls (wq.drewN mm2) t b off n cap xs l av (HQ.out.1.drew mm2) i j1 (by rw [HR.out.2.2.1]; exact hil) (by rw [HR.out.2.2.1]; exact hj1m) (by have := HJ.out; have := HJ2.out; omega) (by rw [HR.out.2.2.1]; omega)).mono ?_
          rintro r w3 ⟨rfl, h3, c3⟩
          have HT : Aside0 (TopsAt w3 t b off n cap xs (swapL l i j1) av ∧ InR (swapL l i j1) n ∧ (swapL l i j1).length = m ∧ Chg w w3 (blkOf av) ∧ downL (keyF (run_ xs off n)) m (gk - 1) (swapL l i j1) j1 = R) :=
            ⟨h3, HR.out.2.1.swap i j1 (by rw [HR.out.2.2.1]; exact hil) (by rw [HR.out.2.2.1]; exact hj1m), by rw [swapL_length]; exact HR.out.2.2.1, (HQ.out.2.drewN mm2).trans c3 (Ext.refl _ _), HE.out.2⟩
          clear h3 c3 HE
          go_wp2_with fail
          go_roundg (gk - 1)
          case measure => have := HK.out; omega
          case rel => exact ⟨j1, swapL l i j1, rfl, by have := HK.out; have := HJ.out; have := HJ2.out; omega, hj1m, HT⟩
        · have HE : Aside0 (decide (keyF (run_ xs off n) (rd l i) < keyF (run_ xs off n) (rd l j1)) = false ∧ (l, i) = R) := ⟨by simpa using hl2, by
            rw [← HR.out.2.2.2.2, HD.out, HB.out.1, if_pos (by simpa using hl2)]⟩
          clear hl2
          go_wp2_with fail
          with_reducible refine (tlessR_calls wq t b off n cap xs l av HQ.out.1 j1 i (by rw [HR.out.2.2.1]; exact hj1m) (by rw [HR.out.2.2.1]; exact hil) HR.out.2.1 HX.out hn).mono ?_
          rintro r w2 ⟨rfl, mm2, rfl⟩
          rw [HE.out.1]
          have HF : Aside0 (TopsAt (wq.drewN mm2) t b off n cap xs R.1 av ∧ Chg w (wq.drewN mm2) (blkOf av) ∧ R.2 = i) := by
            rw [← HE.out.2]
            exact ⟨HQ.out.1.drew mm2, HQ.out.2.drewN mm2, rfl⟩
          clear HR HE HQ
          go_wp2_with fail
          go_returns
          exact ⟨by rw [HF.out.2.2]; simp, HF.out.1, HF.out.2.1⟩
end Go.Proofs.Ytiabenmgbikllaa.M

-- Q5
namespace Go.Proofs.Ytiabenmgbikllaa.M
set_option linter.unusedVariables false
open Go.RowKit Go.Proofs.YtiabenmgbikllaaW.PrintWords Go.Proofs.YtiabenmgbikllaaW.PrintLast Go.Proofs.YtiabenmgbikllaaW.PrintMore Go.Proofs.Ytiabenmgbikllaa.PAll
attribute [local go_sem] max2_int min2_int max_two min_two max_three min_three max_four min_four

def topN (ys : List Int) : Nat → Nat
  | 0 => 0
  | k + 1 => if absI (rd ys (topN ys k : Nat)) ≤ absI (rd ys (k : Nat)) then k else topN ys k
def dec1 (ys : List Int) (k : Nat) : List Int := ys.set k (if 0 < rd ys k then rd ys k - 1 else rd ys k + 1)
def thinN (ys : List Int) : Nat → List Int
  | 0 => ys
  | i + 1 => dec1 (thinN ys i) (topN (thinN ys i) ys.length)
theorem dec1_length (ys : List Int) (k : Nat) : (dec1 ys k).length = ys.length := by simp [dec1]
theorem thinN_length (ys : List Int) : ∀ i, (thinN ys i).length = ys.length
  | 0 => rfl
  | i + 1 => by show (dec1 _ _).length = _; rw [dec1_length, thinN_length ys i]
theorem topN_max (ys : List Int) : ∀ m : Nat, 1 ≤ m → m ≤ 1000 → topN ys m < m ∧ ∀ v : Nat, v < m → keyF ys v ≤ keyF ys (topN ys m : Nat)
  | 0, h, _ => absurd h (by omega)
  | 1, _, _ => by
    have e : topN ys 1 = 0 := by
      show (if absI (rd ys (0 : Nat)) ≤ absI (rd ys (0 : Nat)) then 0 else 0) = 0
      split <;> rfl
    rw [e]
    exact ⟨by omega, fun v hv => by rw [show v = 0 by omega]; omega⟩
  | m + 2, _, h => by
    obtain ⟨i1, i2⟩ := topN_max ys (m + 1) (by omega) (by omega)
    show (if absI (rd ys (topN ys (m + 1) : Nat)) ≤ absI (rd ys ((m + 1 : Nat) : Int)) then m + 1 else topN ys (m + 1)) < m + 2 ∧ ∀ v : Nat, v < m + 2 → keyF ys v ≤ keyF ys ((if absI (rd ys (topN ys (m + 1) : Nat)) ≤ absI (rd ys ((m + 1 : Nat) : Int)) then m + 1 else topN ys (m + 1) : Nat) : Int)
    by_cases hc : absI (rd ys (topN ys (m + 1) : Nat)) ≤ absI (rd ys ((m + 1 : Nat) : Int))
    · rw [if_pos hc]
      refine ⟨by omega, fun v hv => ?_⟩
      by_cases e : v = m + 1
      · rw [e]; omega
      · have := i2 v (by omega)
        unfold keyF at this ⊢
        omega
    · rw [if_neg hc]
      refine ⟨by omega, fun v hv => ?_⟩
      by_cases e : v = m + 1
      · rw [e]
        unfold keyF
        omega
      · exact i2 v (by omega)
theorem key_inj (ys : List Int) (m u v : Nat) (hu : u < m) (hv : v < m) (hm : m ≤ 1000) (h : keyF ys u = keyF ys v) : u = v := by
  unfold keyF at h
  omega
/-- The heap's first is the greatest, of several the last. -/
theorem heap_first (ys at_ : List Int) (m : Nat) (h1 : 1 ≤ m) (hm : m ≤ 1000) (he : Each at_ m) (hh : Heap (keyF ys) at_ m) : rd at_ (0 : Nat) = (topN ys m : Nat) := by
  obtain ⟨t1, t2⟩ := topN_max ys m h1 hm
  obtain ⟨i, hi, hv⟩ := he.onto (topN ys m) t1
  have a1 := heap_top (keyF ys) at_ m hh i i (by omega) hi
  rw [hv] at a1
  have r0 := he.rng 0 (by omega)
  obtain ⟨k, hk⟩ : ∃ k : Nat, rd at_ (0 : Nat) = k := ⟨(rd at_ (0 : Nat)).toNat, by omega⟩
  rw [hk] at a1 r0 ⊢
  have a2 := t2 k (by omega)
  have := key_inj ys m k (topN ys m) (by omega) t1 hm (by omega)
  rw [this]
theorem dec1_rd (ys : List Int) (k v : Nat) (hk : k < ys.length) : rd (dec1 ys k) v = if v = k then (if 0 < rd ys k then rd ys k - 1 else rd ys k + 1) else rd ys v := by
  unfold dec1
  exact rd_set ys k v _ hk
/-- After the first is made less the heap is made right by going down. -/
theorem heap_fixed (ys at_ : List Int) (m : Nat) (h1 : 1 ≤ m) (hl : ys.length = m) (he : Each at_ m) (hh : Heap (keyF ys) at_ m) (k : Nat) (hk : rd at_ (0 : Nat) = k) :
    Each (downL (keyF (dec1 ys k)) m m at_ 0).1 m ∧ Heap (keyF (dec1 ys k)) (downL (keyF (dec1 ys k)) m m at_ 0).1 m := by
  have hkm : k < m := by have := he.rng 0 (by omega); omega
  have hsame : ∀ c : Nat, 1 ≤ c → c < m → keyF (dec1 ys k) (rd at_ c) = keyF ys (rd at_ c) := by
    intro c c1 cm
    have hr := he.rng c cm
    obtain ⟨v, hv⟩ : ∃ v : Nat, rd at_ c = v := ⟨(rd at_ c).toNat, by omega⟩
    have hne : v ≠ k := fun hh => by have := he.inj c 0 cm (by omega) (by rw [hv, hk, hh]); omega
    rw [hv]
    unfold keyF
    rw [dec1_rd ys k v (by omega), if_neg hne]
  refine ⟨he.down m 0 (by omega), down_heap _ m m at_ 0 he.len (by omega) (by omega) ?_ (fun h => absurd h (by omega))⟩
  intro c c1 cm cp
  have hp := par_lt c c1
  rw [hsame c c1 cm, hsame (par c) (by omega) (by omega)]
  exact hh c c1 cm
/-- The heap as it is made, one place behind the other. -/
def pushL (f : Int → Int) : Nat → List Int
  | 0 => []
  | k + 1 => upL f k (pushL f k ++ [(k : Int)]) k
theorem push_ok (f : Int → Int) : ∀ k, Each (pushL f k) k ∧ Heap f (pushL f k) k
  | 0 => ⟨⟨rfl, fun i hi => absurd hi (by omega), fun i j hi => absurd hi (by omega)⟩, fun c _ hc => absurd hc (by omega)⟩
  | k + 1 => by
    obtain ⟨e, h⟩ := push_ok f k
    have hl := e.len
    have hrd : ∀ c : Nat, c < k → rd (pushL f k ++ [(k : Int)]) c = rd (pushL f k) c := fun c hc => by
      rw [← rd_eq, ← rd_eq]; simp [List.getD, List.getElem?_append_left (show c < (pushL f k).length by omega)]
    have hrk : rd (pushL f k ++ [(k : Int)]) k = k := by
      rw [← rd_eq]
      rw [List.getD, List.getElem?_append_right (by omega), hl]
      simp
    have he : Each (pushL f k ++ [(k : Int)]) (k + 1) := by
      refine ⟨by simp [hl], fun i hi => ?_, fun i j hi hj hij => ?_⟩
      · by_cases hc : i < k
        · rw [hrd i hc]; have := e.rng i hc; omega
        · rw [show i = k by omega, hrk]; omega
      · by_cases hci : i < k
        · by_cases hcj : j < k
          · rw [hrd i hci, hrd j hcj] at hij; exact e.inj i j hci hcj hij
          · rw [hrd i hci, show j = k by omega, hrk] at hij; have := e.rng i hci; omega
        · by_cases hcj : j < k
          · rw [hrd j hcj, show i = k by omega, hrk] at hij; have := e.rng j hcj; omega
          · omega
    refine ⟨he.up k k (by omega), up_heap f (k + 1) k _ k he.len (by omega) (by omega) ?_ ?_⟩
    · intro c c1 cm cn
      have hp := par_lt c c1
      rw [hrd c (by omega), hrd (par c) (by omega)]
      exact h c c1 (by omega)
    · intro c c1 cm cp
      have hp := par_lt c c1
      omega
theorem Each.inR {at_ : List Int} {m n : Nat} (h : Each at_ m) (hm : m ≤ n) : InR at_ n := fun k hk => by
  have := h.rng k (by rw [← h.len]; exact hk)
  omega
set_option maxHeartbeats 400000 in
set_option maxRecDepth 100000 in
theorem fix_calls (w : World) (t b off n cap : Nat) (xs at_ : List Int) (av : Value) (h : TopsAt w t b off n cap xs at_ av) (m : Nat) (hm : m = at_.length) (hj : 0 < m) (ha : Each at_ m) (hmn : m ≤ n) (hx : InX (run_ xs off n) n) (hn : n ≤ 100) :
    Calls Try.prog 132 #[.iface 129 (.pointer (some ⟨t, 0, none⟩)), .int .i64 0] w fun r w' => r = .returned (.tuple #[]) ∧ TopsAt w' t b off n cap xs (downL (keyF (run_ xs off n)) m m at_ 0).1 av ∧ Chg w w' (blkOf av) := by
  have HE := Aside0.mk (Each.down (f := keyF (run_ xs off n)) m 0 ha hj)
  have HH := Aside0.mk (And.intro h (And.intro (ha.inR hmn) hx))
  have HL := tlen_calls w t b off n cap xs at_ av h
  rw [← hm] at HL
  have HLa := Aside0.mk HL
  obtain ⟨R, hR⟩ : ∃ R, R = downL (keyF (run_ xs off n)) m m at_ 0 := ⟨_, rfl⟩
  have HR := Aside0.mk (And.intro hR hm)
  rw [← hR] at HE ⊢
  clear h ha hx HL hR hm
  go_enter Try.func132, Try.ntmps132
  go_wp2_with fail
  with_reducible refine HLa.out.mono ?_
  rintro r w1 ⟨rfl, rfl⟩
  go_wp2_with fail
  refine (down_calls w1 t b off n cap xs at_ av HH.out.1 0 m HR.out.2 hj HH.out.2.1 HH.out.2.2 hn (by omega)).mono ?_
  rintro r w2 ⟨rfl, h2, c2⟩
  rw [← HR.out.1] at h2 ⊢
  have H2 := Aside0.mk (And.intro h2 c2)
  clear h2 c2
  by_cases hz : 0 < R.2
  · have hb : decide (0 < R.2) = true := by simpa using hz
    rw [hb]
    clear hz hb
    go_wp2_with fail
    go_returns
    exact ⟨rfl, H2.out⟩
  · have hb : decide (0 < R.2) = false := by simpa using hz
    rw [hb]
    clear hz hb
    go_wp2_with fail
    refine (up_calls w2 t b off n cap xs R.1 av H2.out.1 0 (by rw [HE.out.len]; exact hj) (HE.out.inR hmn) HH.out.2.2 hn (by rw [HE.out.len]; omega)).mono ?_
    rintro r w3 ⟨rfl, h3, c3⟩
    have H3 : Aside0 (TopsAt w3 t b off n cap xs R.1 av ∧ Chg w1 w3 (blkOf av)) := ⟨h3, H2.out.2.trans c3 (Ext.refl _ _)⟩
    clear h3 c3
    go_wp2_with fail
    go_returns
    exact ⟨rfl, H3.out⟩
end Go.Proofs.Ytiabenmgbikllaa.M

-- Q6
namespace Go.Proofs.Ytiabenmgbikllaa.M
set_option linter.unusedVariables false
open Go.RowKit Go.Proofs.YtiabenmgbikllaaW.PrintWords Go.Proofs.YtiabenmgbikllaaW.PrintLast Go.Proofs.YtiabenmgbikllaaW.PrintMore Go.Proofs.Ytiabenmgbikllaa.PAll
attribute [local go_sem] max2_int min2_int max_two min_two max_three min_three max_four min_four

/-- No number is greater than sixteen. -/
def In16 (ys : List Int) : Prop := ∀ x ∈ ys, -16 ≤ x ∧ x ≤ 16
theorem In16.rd {ys : List Int} (h : In16 ys) (k : Nat) (hk : k < ys.length) : -16 ≤ rd ys k ∧ rd ys k ≤ 16 := by
  rw [← rd_eq]
  have : ys.getD k 0 = ys[k] := by simp [hk]
  rw [this]
  exact h _ (List.getElem_mem _)
theorem In16.dec {ys : List Int} (h : In16 ys) (k : Nat) (hk : k < ys.length) : In16 (dec1 ys k) := by
  intro x hx
  have hr := h.rd k hk
  rcases List.mem_or_eq_of_mem_set hx with hx | rfl
  · exact h x hx
  · split <;> omega
theorem In16.inX {ys : List Int} (h : In16 ys) : InX ys ys.length := fun k hk => by have := h.rd k hk; omega
theorem run_lay (xs : List Int) (off : Nat) (ys : List Int) (h : off + ys.length ≤ xs.length) : run_ (lay xs off ys) off ys.length = ys := by
  unfold run_ lay
  have h1 : (xs.take off).length = off := by simp; omega
  rw [List.drop_left' h1, List.take_left' rfl]
theorem lay_run (xs : List Int) (off n : Nat) (h : off + n ≤ xs.length) : lay xs off (run_ xs off n) = xs := by
  unfold lay run_
  rw [show (List.take n (List.drop off xs)).length = n by simp; omega, ← List.drop_drop, List.take_append_drop, List.take_append_drop]
theorem Blk.rb {w : World} {b : Nat} {xs : List Int} (h : Blk w b xs) (off n : Nat) (hn : off + n ≤ xs.length) : Rb w b off (run_ xs off n) := fun j hj => by
  rw [run_length xs off n hn] at hj
  rw [h.cell (off + j) (by omega), run_rd xs off n j hn hj]
set_option maxHeartbeats 1000000 in
set_option maxRecDepth 100000 in
theorem thin_calls (w : World) (b off n cap : Nat) (xs ys : List Int) (fewest : Int) (K : Nat) (hys : ys = run_ xs off n) (hK : K = (cntL ys - fewest).toNat) (hb : Blk w b xs) (hn : off + n ≤ xs.length) (hc : n ≤ cap) (n1 : 1 ≤ n) (n16 : n ≤ 16) (f0 : 0 ≤ fewest) (f1 : fewest ≤ 1000) (h16 : In16 ys) :
    Calls Try.prog 94 #[.slice (some ⟨b, off, none⟩) n cap, .int .i64 fewest] w fun r w' => r = .returned (.tuple #[]) ∧ Blk w' b (lay xs off (thinN ys K)) ∧ Chg w w' (One b) := by
  have hyl : ys.length = n := by rw [hys]; exact run_length xs off n hn
  have hbw := hb.lt
  obtain ⟨t, ht⟩ : ∃ t, t = w.heap.size := ⟨_, rfl⟩
  obtain ⟨W, hW⟩ : ∃ W, W = w.alloc (.cells #[.slice (some ⟨b, off, none⟩) n cap, .slice none 0 0] 131) := ⟨_, rfl⟩
  have htb : t ≠ b := by omega
  have hTW : TopsAt W t b off n cap xs [] (.slice none 0 0) := by
    rw [hW, ht]
    exact ⟨heap_alloc_new w _, own_nil _ _ _ _, hb.chg ((Chg.refl w No).alloc _) (fun h => h), hn, hc, by omega⟩
  have HS : Aside0 (TopsAt W t b off n cap xs (pushL (keyF ys) 0) (.slice none 0 0) ∧ Chg w W No ∧ Ge w.heap.size (blkOf (.slice none 0 0))) := ⟨hTW, by rw [hW]; exact (Chg.refl w No).alloc _, fun k hk => by cases hk⟩
  have HY := Aside0.mk (And.intro hys (And.intro hyl (And.intro h16 (And.intro hK (And.intro ht hW)))))
  have hX : Aside0 (InX (run_ xs off n) n) := ⟨by rw [← hys, ← hyl]; exact h16.inX⟩
  have htw : w.heap.size ≤ t := by omega
  clear hys hyl h16 hK hb hTW
  go_enter Try.func94, Try.ntmps94
  go_wp2_with fail
  rw [← hW, ← ht]
  clear hW ht
  go_loopg [13] n (fun k u13 wr => ∃ (i : Nat) (av : Value), u13 = .int .i64 (i : Int) ∧ k + i = n ∧ Aside0 (TopsAt wr t b off n cap xs (pushL (keyF ys) i) av ∧ Chg w wr No ∧ Ge w.heap.size (blkOf av)))
  case atStart => exact ⟨0, _, rfl, rfl, HS⟩
  case round =>
    clear HS
    obtain ⟨i, av, rfl, hk, HR⟩ := hrel
    by_cases hi : i < n
    · have P := push_ok (keyF ys) i
      have HP := Aside0.mk P
      clear P
      go_wp2_with fail
      refine (hpush_calls wr t b off n cap xs (pushL (keyF ys) i) av HR.out.1 (i : Int) (by omega) (by omega) (HP.out.1.inR (by omega)) hX.out (by omega) (by rw [HP.out.1.len]; omega)).mono ?_
      rintro r w1 ⟨rfl, av1, h1, c1, x1⟩
      have HT : Aside0 (TopsAt w1 t b off n cap xs (pushL (keyF ys) (i + 1)) av1 ∧ Chg w w1 No ∧ Ge w.heap.size (blkOf av1)) := by
        refine ⟨?_, ?_, ?_⟩
        · rw [← HY.out.1, HP.out.1.len] at h1; exact h1
        · exact HR.out.2.1.trans c1 (fun c hc => .inr (by rcases hc with hc | hc; omega; exact HR.out.2.2 c hc))
        · exact Ge.ext HR.out.2.2 HR.out.2.1.size x1
      clear h1 c1 x1
      go_wp2_with fail
      go_roundg (gk - 1)
      case measure => omega
      case rel => exact ⟨i + 1, av1, by go_num, by omega, HT⟩
    · have hin : n = i := by omega
      have HR2 : Aside0 (TopsAt wr t b off n cap (lay xs off (thinN ys 0)) (pushL (keyF ys) n) av ∧ Each (pushL (keyF ys) n) n ∧ Heap (keyF (thinN ys 0)) (pushL (keyF ys) n) n ∧ Chg w wr (One b) ∧ In16 (thinN ys 0)) := by
        obtain ⟨a1, a2, a3⟩ := HR.out
        obtain ⟨p1, p2⟩ := push_ok (keyF ys) n
        rw [← hin] at a1
        refine ⟨?_, p1, p2, a2.mono (fun _ h => False.elim h), HY.out.2.2.1⟩
        show TopsAt wr t b off n cap (lay xs off ys) _ av
        have e : lay xs off ys = xs := by rw [HY.out.1, lay_run xs off n hn]
        rw [e]
        exact a1
      have HGe := Aside0.mk HR.out.2.2
      have hrb : Rb wr b off ys := by rw [HY.out.1]; exact HR.out.1.row.rb off n hn
      have hav := HR.out.1.atne
      have HRB := Aside0.mk (And.intro hrb hav)
      subst hin
      clear HR hrb hav
      go_wp2_with fail
      have HC := count_calls wr b off cap ys HRB.out.1 (by rw [HY.out.2.1]; exact hc) (by rw [HY.out.2.1]; omega)
      rw [HY.out.2.1] at HC
      with_reducible refine HC.mono ?_
      clear HC
      rintro r w2 ⟨rfl, c2⟩
      have HQ : Aside0 (TopsAt w2 t b off n cap (lay xs off (thinN ys 0)) (pushL (keyF ys) n) av ∧ Each (pushL (keyF ys) n) n ∧ Heap (keyF (thinN ys 0)) (pushL (keyF ys) n) n ∧ Chg w w2 (One b) ∧ In16 (thinN ys 0)) :=
        ⟨HR2.out.1.chg c2 (fun h => h) (fun h => h) (fun _ _ h => h), HR2.out.2.1, HR2.out.2.2.1, HR2.out.2.2.2.1.trans c2 (fun _ h => False.elim h), HR2.out.2.2.2.2⟩
      obtain ⟨c0, hc0⟩ : ∃ c0, c0 = cntL ys := ⟨_, rfl⟩
      have hcr := cntL_range ys
      have hyl := HY.out.2.1
      have hKc := HY.out.2.2.2.1
      rw [← hc0] at hcr hKc ⊢
      obtain ⟨hcr0, hcr1⟩ := hcr
      have hc1 : c0 ≤ 512 := by omega
      have HK := Aside0.mk hKc
      have HNE : Aside0 (¬ blkOf av t ∧ ¬ blkOf av b) := ⟨HRB.out.2⟩
      clear c2 hc0 HRB HR2 hKc hyl hcr1
      go_wp2_with fail
      go_loopg [6] K (fun k u6 wr => ∃ (i : Nat) (v : Int) (l : List Int), u6 = .int .i64 v ∧ k + i = K ∧ Aside0 (v = c0 - i) ∧ -1 ≤ v ∧ v ≤ 512 ∧ Aside0 (TopsAt wr t b off n cap (lay xs off (thinN ys i)) l av ∧ Each l n ∧ Heap (keyF (thinN ys i)) l n ∧ Chg w wr (One b) ∧ In16 (thinN ys i)))
      case atStart => exact ⟨0, c0, _, rfl, rfl, ⟨by omega⟩, by omega, hc1, HQ⟩
      case round =>
        clear HQ
        obtain ⟨i, v, l, rfl, hk, HV, hv0, hv1, HR⟩ := hrel
        by_cases hi : i < K
        · have hfv : fewest < v := by have := HV.out; have := HK.out; omega
          have hzl : (thinN ys i).length = n := by rw [thinN_length]; exact HY.out.2.1
          obtain ⟨zs, hzs⟩ : ∃ zs, zs = thinN ys i := ⟨_, rfl⟩
          have hnext : thinN ys (i + 1) = dec1 zs (topN zs n) := by rw [hzs, ← HY.out.2.1]; rfl
          rw [← hzs] at HR hzl
          have hr0 := HR.out.2.1.rng 0 (by omega)
          obtain ⟨kk, hkk⟩ : ∃ kk : Nat, rd l (0 : Nat) = kk := ⟨(rd l (0 : Nat)).toNat, by omega⟩
          have hkn : kk < n := by omega
          have hfirst := heap_first zs l n n1 (by omega) HR.out.2.1 HR.out.2.2.1
          have htop : topN zs n = kk := by rw [hkk] at hfirst; omega
          have hfix := heap_fixed zs l n n1 hzl HR.out.2.1 HR.out.2.2.1 kk hkk
          obtain ⟨ga, ca, hav⟩ := own_pos HR.out.1.own (by rw [HR.out.2.1.len]; omega)
          have ho := HR.out.1.own
          rw [hav] at ho
          have q00 := (own_at ho (0 : Int) (by omega) (by rw [HR.out.2.1.len]; omega)).1
          rw [show rd l (0 : Int) = (kk : Int) from hkk] at q00
          have q0 : wr.cell? ⟨ga, 0, none⟩ = some (.int .i64 (kk : Int)) := q00
          clear q00
          have q1 : wr.cell? ⟨t, 1, none⟩ = some (.slice (some ⟨ga, 0, none⟩) n ca) := by
            have := blk_cell HR.out.1.blk 1
            rw [hav, HR.out.2.1.len] at this
            exact this
          have hca : n ≤ ca := by have := own_le ho; rw [HR.out.2.1.len] at this; exact this
          have hxl : Aside0 ((lay xs off zs).length = xs.length ∧ off + zs.length ≤ xs.length) := ⟨by rw [lay_length _ _ _ (by omega)], by omega⟩
          have q2 := HR.out.1.row.cell (off + kk) (by rw [hxl.out.1]; omega)
          rw [lay_rd xs off zs kk (by omega) hxl.out.2] at q2
          have z2 := HR.out.1.row.frozen (off + kk)
          obtain ⟨x, hx⟩ : ∃ x, x = rd zs kk := ⟨_, rfl⟩
          have hx16 := HR.out.2.2.2.2.rd kk (by omega)
          rw [← hx] at q2 hx16
          have HZ := Aside0.mk (And.intro hnext (And.intro htop (And.intro hfix (And.intro hzl (And.intro hx hzs)))))
          have HW : Aside0 (∀ y, y = (if 0 < x then x - 1 else x + 1) → TopsAt (wr.setCell ⟨b, off + kk, none⟩ (.int .i64 y)) t b off n cap (lay xs off (dec1 zs kk)) l av ∧ Chg w (wr.setCell ⟨b, off + kk, none⟩ (.int .i64 y)) (One b)) := ⟨fun y hy => by
            obtain ⟨a1, a2, a3, a4, a5⟩ := HR.out
            have kc : Chg wr (wr.setCell ⟨b, off + kk, none⟩ (.int .i64 y)) (One b) := (Chg.refl wr (One b)).setCell (p := ⟨b, off + kk, none⟩) (.inl rfl) _
            refine ⟨⟨kc.blk a1.blk (fun hh => htb hh), kc.own a1.own (fun c hc hh => HNE.out.2 (by have hh' : c = b := hh; rw [← hh']; exact hc)), ?_, by rw [lay_length _ _ _ (by rw [dec1_length]; exact hxl.out.2)]; exact hn, a1.hc, a1.ne⟩, a4.trans kc (Ext.refl _ _)⟩
            have e9 : lay xs off (dec1 zs kk) = (lay xs off zs).set (off + kk) y := by
              rw [lay_set xs off zs kk y (by omega) hxl.out.2, hy, hx]; rfl
            rw [e9]
            exact a1.row.set (off + kk) y⟩
          have hrun : run_ (lay xs off (dec1 zs kk)) off n = dec1 zs kk := by
            have := run_lay xs off (dec1 zs kk) (by rw [dec1_length]; exact hxl.out.2)
            rw [dec1_length, hzl] at this
            exact this
          have HRun : Aside0 (run_ (lay xs off (dec1 zs kk)) off n = dec1 zs kk ∧ InX (run_ (lay xs off (dec1 zs kk)) off n) n ∧ In16 (dec1 zs kk)) := by
            have h8 := HR.out.2.2.2.2.dec kk (by omega)
            refine ⟨hrun, ?_, h8⟩
            rw [hrun]
            have := h8.inX
            rw [dec1_length, hzl] at this
            exact this
          have HE := Aside0.mk HR.out.2.1
          clear HR hnext htop hfix hzl hx hzs hrun hfirst hkk hr0 hav ho
          by_cases hp : 0 < x
          case' pos =>
            have HW2 := Aside0.mk (HW.out (x - 1) (by rw [if_pos hp]))
            clear HW
            go_wp2_with fail
            generalize wr.setCell ⟨b, off + kk, none⟩ (.int .i64 (x - 1)) = w3 at HW2 ⊢
          case' neg =>
            have HW2 := Aside0.mk (HW.out (x + 1) (by rw [if_neg hp]))
            have hpb : decide (0 < x) = false := by simpa using hp
            clear HW
            go_wp2_with fail
            generalize wr.setCell ⟨b, off + kk, none⟩ (.int .i64 (x + 1)) = w3 at HW2 ⊢
          all_goals
            refine (fix_calls w3 t b off n cap _ l av HW2.out.1 n HE.out.len.symm (by omega) HE.out (Nat.le_refl _) HRun.out.2.1 (by omega)).mono ?_
            rintro r w4 ⟨rfl, h4, c4⟩
            have HT : Aside0 (TopsAt w4 t b off n cap (lay xs off (thinN ys (i + 1))) (downL (keyF (dec1 zs kk)) n n l 0).1 av ∧ Each (downL (keyF (dec1 zs kk)) n n l 0).1 n ∧ Heap (keyF (thinN ys (i + 1))) (downL (keyF (dec1 zs kk)) n n l 0).1 n ∧ Chg w w4 (One b) ∧ In16 (thinN ys (i + 1))) := by
              rw [HRun.out.1] at h4
              rw [HZ.out.1, HZ.out.2.1]
              exact ⟨h4, HZ.out.2.2.1.1, HZ.out.2.2.1.2, HW2.out.2.trans c4 (fun c hc => .inr (HGe.out c hc)), HRun.out.2.2⟩
            clear h4 c4 HW2 q0 q1 q2 z2
            go_wp2_with fail
            go_roundg (gk - 1)
            case measure => omega
            case rel => exact ⟨i + 1, v - 1, _, rfl, by omega, ⟨by have := HV.out; omega⟩, by omega, by omega, HT⟩
        · have hfv : v ≤ fewest := by have := HV.out; have := HK.out; omega
          have hiK : i = K := by omega
          have HF : Aside0 (Blk wr b (lay xs off (thinN ys K)) ∧ Chg w wr (One b)) := by
            rw [← hiK]; exact ⟨HR.out.1.row, HR.out.2.2.2.1⟩
          clear HR
          go_wp2_with fail
          go_returns
          exact ⟨rfl, HF.out⟩
end Go.Proofs.Ytiabenmgbikllaa.M

-- Q7
namespace Go.Proofs.Ytiabenmgbikllaa.M
set_option linter.unusedVariables false
open Go.RowKit Go.Proofs.YtiabenmgbikllaaW.PrintWords Go.Proofs.YtiabenmgbikllaaW.PrintLast Go.Proofs.YtiabenmgbikllaaW.PrintMore Go.Proofs.Ytiabenmgbikllaa.PAll
attribute [local go_sem] max2_int min2_int max_two min_two max_three min_three max_four min_four

def clL (l : List Int) : List Int := l.map fun v => clampI v (-16) 16
/-- The block i of xs, its pulses taken away. -/
def thinAt (f : Int) (xs : List Int) (i : Nat) : List Int :=
  lay xs (16 * i) (thinN (run_ xs (16 * i) (min 16 (xs.length - 16 * i))) (cntL (run_ xs (16 * i) (min 16 (xs.length - 16 * i))) - f).toNat)
def fewN (f : Int) (xs : List Int) : Nat → List Int
  | 0 => xs
  | i + 1 => thinAt f (fewN f xs i) i
def fewerL (l : List Int) (most : Int) : List Int := fewN (clampI most 0 16) (clL l) ((l.length + 15) / 16)
theorem clL_length (l : List Int) : (clL l).length = l.length := by simp [clL]
theorem clL_in (l : List Int) : In16 (clL l) := fun x hx => by
  obtain ⟨v, _, rfl⟩ := List.mem_map.1 hx
  exact clampI_range v (-16) 16 (by omega)
theorem thinAt_length (f : Int) (xs : List Int) (i : Nat) (h : 16 * i ≤ xs.length) : (thinAt f xs i).length = xs.length := by
  unfold thinAt
  rw [lay_length]
  rw [thinN_length, run_length _ _ _ (by omega)]
  omega
theorem fewN_length (f : Int) (xs : List Int) : ∀ i, 16 * i ≤ xs.length + 15 → (fewN f xs i).length = xs.length
  | 0, _ => rfl
  | i + 1, h => by
    have ih := fewN_length f xs i (by omega)
    show (thinAt f (fewN f xs i) i).length = _
    rw [thinAt_length f _ i (by omega), ih]
theorem thin_in (ys : List Int) (h : In16 ys) (h1 : 1 ≤ ys.length) (h2 : ys.length ≤ 1000) : ∀ i, In16 (thinN ys i)
  | 0 => h
  | i + 1 => by
    have ih := thin_in ys h h1 h2 i
    have ht := (topN_max (thinN ys i) ys.length h1 h2).1
    exact ih.dec _ (by rw [thinN_length]; exact ht)
theorem In16.run {xs : List Int} (h : In16 xs) (off n : Nat) : In16 (run_ xs off n) := fun x hx => h x (List.mem_of_mem_drop (List.mem_of_mem_take hx))
theorem In16.lay {xs ys : List Int} (h : In16 xs) (k : In16 ys) (off : Nat) : In16 (lay xs off ys) := fun x hx => by
  unfold M.lay at hx
  rcases List.mem_append.1 hx with hx | hx
  · exact h x (List.mem_of_mem_take hx)
  · rcases List.mem_append.1 hx with hx | hx
    · exact k x hx
    · exact h x (List.mem_of_mem_drop hx)
theorem fewN_in (f : Int) (xs : List Int) (h : In16 xs) : ∀ i, 16 * i ≤ xs.length + 15 → In16 (fewN f xs i)
  | 0, _ => h
  | i + 1, hi => by
    have ih := fewN_in f xs h i (by omega)
    have hl := fewN_length f xs i (by omega)
    show In16 (thinAt f (fewN f xs i) i)
    unfold thinAt
    have hr : (run_ (fewN f xs i) (16 * i) (min 16 ((fewN f xs i).length - 16 * i))).length = min 16 ((fewN f xs i).length - 16 * i) := run_length _ _ _ (by omega)
    exact ih.lay (thin_in _ (ih.run _ _) (by omega) (by omega) _) _
set_option maxHeartbeats 600000 in
set_option maxRecDepth 100000 in
theorem fewer_calls (w : World) (s : Value) (l : List Int) (most : Int) (h : Rd w .i64 s l) (hl : l.length ≤ 480) :
    Calls Try.prog 42 #[s, .int .i64 most] w fun r w' => ∃ L, r = .returned (.slice (some ⟨L, 0, none⟩) l.length l.length) ∧ Blk w' L (fewerL l most) ∧ Chg w w' No ∧ w.heap.size ≤ L := by
  obtain ⟨A, c, rfl, hc, hr⟩ := h.to
  obtain ⟨n, hn⟩ : ∃ n, n = l.length := ⟨_, rfl⟩
  have HL := Aside0.mk (And.intro hn hr)
  rw [← hn] at hl hc ⊢
  clear h hr hn
  have hmk := print_make (P := Try.prog) 45 2 .i64 8 Try.underlying45 info2 (by omega) n (by omega)
  obtain ⟨F, hF⟩ : ∃ F, F = clampI most 0 16 := ⟨_, rfl⟩
  have HF := Aside0.mk hF
  have hFr : 0 ≤ F ∧ F ≤ 16 := by rw [hF]; exact clampI_range most 0 16 (by omega)
  obtain ⟨hF0, hF1⟩ := hFr
  clear hF
  go_enter Try.func42, Try.ntmps42
  go_upto_region 3 with (fail)
  go_cut [1] (fun s1 wx => s1 = .int .i64 F ∧ wx = w)
  case first =>
    go_wp2_with fail
    all_goals
      go_meet
      refine ⟨?_, rfl⟩
      rw [HF.out]
      unfold clampI
      congr 1
      split <;> (try split) <;> omega
  case rest =>
    obtain ⟨rfl, rfl⟩ := hcut
    obtain ⟨W, hW⟩ : ∃ W, W = wc.alloc (.cells (madeCells #[.int .i64 0] n) 2) := ⟨_, rfl⟩
    obtain ⟨L, hL⟩ : ∃ L, L = wc.heap.size := ⟨_, rfl⟩
    have HS : Aside0 (Blk W L ((clL l).take 0 ++ (List.replicate n 0).drop 0) ∧ Chg wc W No) := ⟨by rw [hW, hL]; simp only [List.take_zero, List.nil_append, List.drop_zero]; exact blk_made wc n, by rw [hW]; exact (Chg.refl wc No).alloc _⟩
    have hLw : wc.heap.size ≤ L := by omega
    have HWL := Aside0.mk (And.intro hW hL)
    clear hW hL
    go_wp2_with fail
    rw [← HWL.out.1, ← HWL.out.2]
    clear hmk
    go_loopg [20] n (fun k u20 wr => ∃ i : Nat, u20 = .int .i64 (i : Int) ∧ k + i = n ∧ Aside0 (Blk wr L ((clL l).take i ++ (List.replicate n 0).drop i) ∧ Chg wc wr No))
    case atStart => exact ⟨0, rfl, rfl, HS⟩
    case round =>
      clear HS
      obtain ⟨i, rfl, hk, HR⟩ := hrel
      by_cases hi : i < n
      · have hlt : i < l.length := by have := HL.out.1; omega
        obtain ⟨ad, hA, hx⟩ := HL.out.2.at_ (i : Int) (by omega) (by omega)
        simp only [Int.toNat_natCast] at hx
        have hx2 : wr.cell? (ad.add i) = some (.int .i64 (rd l i)) := by
          have hb := HR.out.2.block (ad.add i).block (World.block_lt_of_cell? wc _ hx) (fun h => h)
          simpa [World.cell?, hb] using hx
        obtain ⟨x, hxx⟩ : ∃ x, x = rd l i := ⟨_, rfl⟩
        rw [← hxx] at hx2
        have hAl : ((clL l).take i).length = i := by rw [List.length_take, clL_length]; omega
        have hll : ((clL l).take i ++ (List.replicate n (0 : Int)).drop i).length = n := by rw [List.length_append, hAl]; simp; omega
        have c0 := HR.out.1.cell i (by rw [hll]; exact hi)
        have z0 := HR.out.1.frozen i
        have hms := mid_set ((clL l).take i) (List.replicate n 0) (clampI x (-16) 16) (by rw [hAl]; simpa using hi)
        rw [hAl] at hms
        have hcl : rd (clL l) i = clampI x (-16) 16 := by
          rw [hxx, ← rd_eq, ← rd_eq]
          simp [clL, List.getD, hlt]
        have hts := take_snoc_rd (clL l) i (by rw [clL_length]; exact hlt)
        rw [hcl] at hts
        have HT : Aside0 (∀ W', Chg wr W' No → Blk W' L ((clL l).take i ++ (List.replicate n 0).drop i) → Blk (W'.setCell ⟨L, i, none⟩ (.int .i64 (clampI x (-16) 16))) L ((clL l).take (i + 1) ++ (List.replicate n 0).drop (i + 1)) ∧ Chg wc (W'.setCell ⟨L, i, none⟩ (.int .i64 (clampI x (-16) 16))) No) := ⟨fun W' k' b' => by
          rw [hts, ← hms]
          exact ⟨b'.set i _, (HR.out.2.trans k' (Ext.refl _ _)).setCell (p := ⟨L, i, none⟩) (.inr hLw) _⟩⟩
        subst hA
        clear hx hxx hAl hll hms hcl hts
        go_wp2_with fail
        with_reducible refine (clamp_calls wr x (-16) 16).mono ?_
        rintro r w1 ⟨rfl, m, rfl⟩
        have HT2 := Aside0.mk (HT.out (wr.drewN m) ((Chg.refl wr No).drewN m) (HR.out.1.chg ((Chg.refl wr No).drewN m) (fun h => h)))
        clear HT
        go_wp2_with fail
        go_roundg (gk - 1)
        case measure => omega
        case rel => exact ⟨i + 1, by go_num, by omega, HT2⟩
      · have hin : n = i := by omega
        have HS : Aside0 (Blk wr L (fewN F (clL l) 0) ∧ Chg wc wr No) := ⟨by
          have := HR.out.1
          rw [← hin, List.take_of_length_le (by rw [clL_length]; have := HL.out.1; omega), List.drop_eq_nil_of_le (by simp), List.append_nil] at this
          exact this, HR.out.2⟩
        subst hin
        clear HR
        obtain ⟨NB, hNB⟩ : ∃ NB, NB = (n + 15) / 16 := ⟨_, rfl⟩
        have HNB := Aside0.mk hNB
        have hNB1 : 16 * NB ≤ n + 15 := by omega
        have hNB2 : n ≤ 16 * NB := by omega
        clear hNB
        go_wp2_with fail
        go_loopg [8] NB (fun k u8 wr => ∃ i a : Nat, u8 = .int .i64 (a : Int) ∧ k + i = NB ∧ Aside0 (a = 16 * i ∧ Blk wr L (fewN F (clL l) i) ∧ Chg wc wr No))
        case atStart => exact ⟨0, 0, rfl, rfl, ⟨rfl, HS.out⟩⟩
        case round =>
          clear HS
          obtain ⟨i, a, rfl, hk, HR⟩ := hrel
          by_cases hi : i < NB
          · have han : a < n := by have := HR.out.1; omega
            obtain ⟨i2, hi2, hz⟩ := Option.map_eq_some_iff.1 info2
            simp only [Prod.mk.injEq] at hz
            have hfl : (fewN F (clL l) i).length = n := by rw [fewN_length F _ i (by rw [clL_length]; have := HL.out.1; omega), clL_length]; exact HL.out.1.symm
            have hfi := fewN_in F (clL l) (clL_in l) i (by rw [clL_length]; have := HL.out.1; omega)
            have HFI := Aside0.mk (And.intro hfl hfi)
            clear hfl hfi
            by_cases h16 : a + 16 ≤ n
            case' pos =>
              have hmid : ∀ W : World, (Instr.slice 45 (.slice (some ⟨L, 0, none⟩) n n) (some (.int .i64 (a : Int))) (some (.int .i64 ((a : Int) + 16))) none).run Try.prog W = .ok (.slice (some ⟨L, a, none⟩) 16 (n - a)) W := by
                intro W
                have := slice_mid 45 2 Try.underlying45 hi2 hz.2.1 L n n (a : Int) ((a : Int) + 16) (by omega) (by omega) (by omega) (by omega) W (by omega)
                rw [this]
                simp
                omega
              have HM : Aside0 (min 16 (n - a) = 16) := ⟨by omega⟩
              clear hi2 hz
              go_wp2_with fail
            case' neg =>
              have hmid : ∀ W : World, (Instr.slice 45 (.slice (some ⟨L, 0, none⟩) n n) (some (.int .i64 (a : Int))) (some (.int .i64 (n : Int))) none).run Try.prog W = .ok (.slice (some ⟨L, a, none⟩) (n - a) (n - a)) W := by
                intro W
                have := slice_mid 45 2 Try.underlying45 hi2 hz.2.1 L n n (a : Int) (n : Int) (by omega) (by omega) (by omega) (by omega) W (by omega)
                rw [this]
                simp
              have HM : Aside0 (min 16 (n - a) = n - a) := ⟨by omega⟩
              clear hi2 hz
              go_wp2_with fail
            all_goals
              refine (thin_calls wr L a _ _ (fewN F (clL l) i) _ F _ rfl rfl HR.out.2.1 (by rw [HFI.out.1]; omega) (by omega) (by omega) (by omega) hF0 (by omega) (HFI.out.2.run _ _)).mono ?_
              rintro r w1 ⟨rfl, b1, c1⟩
              have HT : Aside0 (a + 16 = 16 * (i + 1) ∧ Blk w1 L (fewN F (clL l) (i + 1)) ∧ Chg wc w1 No) := by
                refine ⟨by have := HR.out.1; omega, ?_, HR.out.2.2.trans c1 (Ext.new (fun k hk => by rw [show k = L from hk]; exact hLw))⟩
                show Blk w1 L (thinAt F (fewN F (clL l) i) i)
                unfold thinAt
                rw [HFI.out.1, ← HR.out.1, HM.out]
                exact b1
              clear b1 c1 hmid
              go_wp2_with fail
              go_roundg (gk - 1)
              case measure => omega
              case rel => exact ⟨i + 1, a + 16, by go_num, by omega, HT⟩
          · have hin : i = NB := by omega
            have HFin : Aside0 (Blk wr L (fewerL l most) ∧ Chg wc wr No) := ⟨by
              have := HR.out.2.1
              rw [hin, HNB.out] at this
              unfold fewerL
              rw [← HF.out, ← HL.out.1]
              exact this, HR.out.2.2⟩
            have han : n ≤ a := by have := HR.out.1; omega
            clear HR
            go_wp2_with fail
            go_returns
            exact ⟨L, rfl, HFin.out.1, HFin.out.2, hLw⟩
end Go.Proofs.Ytiabenmgbikllaa.M
