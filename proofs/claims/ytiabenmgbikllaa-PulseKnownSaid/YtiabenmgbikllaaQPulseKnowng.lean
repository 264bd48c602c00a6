/- Contracts of the program's functions and plain laws for the law PulseKnown, several texts in one (part 7); the program's functions as Lean functions came out of the kit's print. Conditions: each theorem's own. -/
import Derived.Test.YtiabenmgbikllaaQPulseKnownf
-- F1
namespace Go.Proofs.Ytiabenmgbikllaa.M
set_option linter.unusedVariables false
open Go.RowKit Go.Proofs.YtiabenmgbikllaaW.PrintWords Go.Proofs.YtiabenmgbikllaaW.PrintLast Go.Proofs.YtiabenmgbikllaaW.PrintMore Go.Proofs.Ytiabenmgbikllaa.PAll
attribute [local go_sem] max2_int min2_int max_two min_two max_three min_three max_four min_four

/-- The document's reader lies in block g, with e as its last share. -/
def RefE (w0 w : World) (g : Nat) (d : D) (e : Int) : Prop := IsS95 w0 w g d.b d.rng d.val d.last d.front d.back d.window d.waiting d.count d.bad e ∧ Below w0.heap.size w0 w
def RefAt (w0 w : World) (g : Nat) (d : D) : Prop := ∃ e, RefE w0 w g d e
theorem RefE.chg {w0 w w1 : World} {g : Nat} {d : D} {e : Int} {S : Nat → Prop} (h : RefE w0 w g d e) (k : Chg w w1 S) (hg : ¬ S g) (hS : Ge w0.heap.size S) : RefE w0 w1 g d e := by
  obtain ⟨⟨A, c, hb, hge, hr⟩, hB⟩ := h
  exact ⟨⟨A, c, k.blk hb hg, hge, hr⟩, hB.trans (k.below hS hB.size)⟩
theorem RefAt.chg {w0 w w1 : World} {g : Nat} {d : D} {S : Nat → Prop} (h : RefAt w0 w g d) (k : Chg w w1 S) (hg : ¬ S g) (hS : Ge w0.heap.size S) : RefAt w0 w1 g d := by
  obtain ⟨e, h⟩ := h
  exact ⟨e, h.chg k hg hS⟩
end Go.Proofs.Ytiabenmgbikllaa.M

-- G0
namespace Go.Proofs.Ytiabenmgbikllaa.M
set_option linter.unusedVariables false
open Go.RowKit Go.Proofs.YtiabenmgbikllaaW.PrintWords Go.Proofs.YtiabenmgbikllaaW.PrintLast Go.Proofs.YtiabenmgbikllaaW.PrintMore Go.Proofs.Ytiabenmgbikllaa.PAll
attribute [local go_sem] max2_int min2_int max_two min_two max_three min_three max_four min_four

def clampI (a lo hi : Int) : Int := if lo > hi then lo else if a < lo then lo else if a > hi then hi else a
theorem clamp_f (a lo hi : Int) : fix_Clamp.f 1 a lo hi = some (clampI a lo hi) := by
  unfold fix_Clamp.f clampI
  by_cases h1 : lo > hi
  · rw [if_pos h1, if_pos h1]; simp [fix_Clamp.j0]
  · rw [if_neg h1, if_neg h1]
    by_cases h2 : a < lo
    · rw [if_pos h2]; simp [fix_Clamp.j0, h2]
    · rw [if_neg h2]; simp only [fix_Clamp.j0, h2, decide_false]
      by_cases h3 : a > hi
      · rw [if_pos h3]; simp [h3]
      · rw [if_neg h3]; simp [h3]
theorem clampI_range (a lo hi : Int) (h : lo ≤ hi) : lo ≤ clampI a lo hi ∧ clampI a lo hi ≤ hi := by
  unfold clampI
  rw [if_neg (by omega)]
  split
  · omega
  · split <;> omega
theorem clamp_calls (w : World) (a lo hi : Int) : Calls Try.prog 65 #[.int .i64 a, .int .i64 lo, .int .i64 hi] w fun r w' => r = .returned (.int .i64 (clampI a lo hi)) ∧ ∃ n, w' = w.drewN n :=
  (fix_Clamp.calls 1 a lo hi _ w (clamp_f a lo hi)).mono fun r w' ⟨h1, h2⟩ => ⟨h1, h2.out⟩

end Go.Proofs.Ytiabenmgbikllaa.M

-- G2
namespace Go.Proofs.Ytiabenmgbikllaa.M
set_option linter.unusedVariables false
open Go.RowKit Go.Proofs.YtiabenmgbikllaaW.PrintWords Go.Proofs.YtiabenmgbikllaaW.PrintLast Go.Proofs.YtiabenmgbikllaaW.PrintMore Go.Proofs.Ytiabenmgbikllaa.PAll
attribute [local go_sem] max2_int min2_int max_two min_two max_three min_three max_four min_four

/-- A table, looked over by program. -/
def tabB (t : List Int) : Bool :=
  decide (t.length ≤ 256) && (List.range t.length).all (fun i => decide (0 ≤ t.getD i 0) && decide (t.getD i 0 ≤ 255)) && (List.range (t.length - 1)).all (fun i => decide (t.getD (i + 1) 0 < t.getD i 0)) && decide (t.getD (t.length - 1) 0 = 0)
theorem tabOk_of (t : List Int) (hg : tabs_Good.f 300 t = some true) (h : tabB t = true) : TabOk t := by
  unfold tabB at h
  simp only [Bool.and_eq_true, List.all_eq_true, List.mem_range, decide_eq_true_eq] at h
  obtain ⟨⟨⟨h1, h2⟩, h3⟩, h4⟩ := h
  exact ⟨hg, h1, fun i hi => h2 i hi, fun i hi => h3 i (by omega), h4⟩
def icdf : Nat → List Int
  | 0 => [192, 96, 0]
  | 1 => [224, 192, 160, 128, 96, 64, 32, 0]
  | 2 => [252, 247, 240, 230, 214, 190, 150, 106, 66, 42, 26, 16, 10, 6, 4, 2, 0]
  | 3 => [240, 224, 208, 192, 176, 160, 144, 128, 112, 96, 80, 64, 48, 32, 16, 0]
  | 4 => [253, 244, 222, 170, 86, 34, 12, 3, 0]
  | 5 => [218, 180, 148, 122, 100, 82, 67, 54, 43, 34, 26, 19, 14, 10, 6, 3, 0]
  | _ => [205, 163, 128, 97, 70, 44, 20, 0]
theorem icdf_ok : ∀ i : Nat, i < 7 → TabOk (icdf i)
  | 0, _ => tabOk_of _ (by decide +kernel) (by decide +kernel)
  | 1, _ => tabOk_of _ (by decide +kernel) (by decide +kernel)
  | 2, _ => tabOk_of _ (by decide +kernel) (by decide +kernel)
  | 3, _ => tabOk_of _ (by decide +kernel) (by decide +kernel)
  | 4, _ => tabOk_of _ (by decide +kernel) (by decide +kernel)
  | 5, _ => tabOk_of _ (by decide +kernel) (by decide +kernel)
  | 6, _ => tabOk_of _ (by decide +kernel) (by decide +kernel)
  | n + 7, h => absurd h (by omega)
theorem icdf_f : ∀ i : Nat, i < 7 → tabs_Icdf.f i = some (icdf i)
  | 0, _ => rfl
  | 1, _ => rfl
  | 2, _ => rfl
  | 3, _ => rfl
  | 4, _ => rfl
  | 5, _ => rfl
  | 6, _ => rfl
  | n + 7, h => absurd h (by omega)
theorem icdf_pos (i : Nat) : 0 < (icdf i).length := by
  unfold icdf
  split <;> decide
/-- A table as a call hands it back: a slice in new memory. -/
def TabAt (w w' : World) (t : List Int) (v : Value) : Prop := ∃ A c, v = .slice A t.length c ∧ ReadsInt w' .i64 A t.length t ∧ t.length ≤ c ∧ (∀ ad, A = some ad → w.heap.size ≤ ad.block) ∧ Chg w w' No
theorem icdf_calls (w : World) (i : Nat) (hi : i < 7) : Calls Try.prog 88 #[.int .i64 i] w fun r w' => ∃ v, r = .returned v ∧ TabAt w w' (icdf i) v :=
  (tabs_Icdf.calls i _ w (icdf_f i hi)).mono fun r w' ⟨v, h1, h2, h3⟩ => by
    have ho := Kd.own_of_R h2
    obtain ⟨A, c, rfl⟩ := own_slice ho
    refine ⟨_, h1, A, c, rfl, readsInt_of.2 (own_reads_of' ho), own_le ho, fun ad ha => ?_, Chg.of_below h3 No⟩
    subst ha
    exact own_base ho ad.block rfl

/-- A symbol is written by a table that was made on the spot. -/
theorem esym_at (w w1 : World) (f : Nat → Prop) (g : Nat) (e : E) (i : Nat) (s : Int) (v : Value) (h : EncAt w f g e) (hk : EOk e) (hi : i < 7) (ht : TabAt w w1 (icdf i) v) (h0 : 0 ≤ s) (h1 : s < (icdf i).length) :
    Calls Try.prog 91 #[.pointer (some ⟨g, 0, none⟩), .int .i64 s, v] w1 fun r w' => r = .returned (.int .i64 0) ∧ ∃ f', EncAt w' f' g (e.symbol s (icdf i)) ∧ Chg w w' f ∧ Ext w f f' := by
  obtain ⟨A, c, rfl, hr, hc, _, hch⟩ := ht
  exact (esymbol_calls w1 f g e s (icdf i) A c (h.chg hch (fun _ _ hh => hh)) hk (icdf_ok i hi) hr hc h0 h1).mono
    fun r w' ⟨hr, f', hE, hC, hX⟩ => ⟨hr, f', hE, (hch.mono (fun _ hh => hh.elim)).trans hC (Ext.refl _ _), hX.le hch.size⟩

def E.first (e : E) (g : Int) : E := (e.symbol (g / 8) (icdf 1)).uint (g % 8) 8
end Go.Proofs.Ytiabenmgbikllaa.M

-- F3
namespace Go.Proofs.Ytiabenmgbikllaa.M
set_option linter.unusedVariables false
open Go.RowKit Go.Proofs.YtiabenmgbikllaaW.PrintWords Go.Proofs.YtiabenmgbikllaaW.PrintLast Go.Proofs.YtiabenmgbikllaaW.PrintMore Go.Proofs.Ytiabenmgbikllaa.PAll
attribute [local go_sem] max2_int min2_int max_two min_two max_three min_three max_four min_four

def D.endV (d : D) : Int := if d.back ≥ d.b.length then 0 else rd d.b (d.b.length - (d.back + 1))
def D.endB (d : D) : Int := if d.back ≥ d.b.length then d.back else d.back + 1
/-- A byte more waits. -/
def D.fill (d : D) : D := { d with back := d.endB, window := d.endV * 2 ^ d.waiting.toNat + d.window, waiting := d.waiting + 8 }
def D.fillL : Nat → Int → D → D
  | 0, _, d => d
  | k + 1, n, d => if d.waiting < n then D.fillL k n d.fill else d
def D.bitsV (d : D) (n : Int) : Int := (D.fillL 3 n d).window % 2 ^ n.toNat
def D.bits (d : D) (n : Int) : D := { D.fillL 3 n d with window := (D.fillL 3 n d).window / 2 ^ n.toNat, waiting := (D.fillL 3 n d).waiting - n, count := (D.fillL 3 n d).count + n }
/-- What holds of the bits that wait. -/
structure DRaw (d : D) : Prop where
  w0 : 0 ≤ d.waiting
  w1 : d.waiting ≤ 31
  x0 : 0 ≤ d.window
  x1 : d.window < 2 ^ d.waiting.toNat
  b0 : 0 ≤ d.back
  b1 : d.back ≤ d.b.length
theorem D.endV_range (d : D) (hb : Bytes d.b) (h : DRaw d) : 0 ≤ d.endV ∧ d.endV < 256 ∧ 0 ≤ d.endB ∧ d.endB ≤ d.b.length := by
  have h0 := h.b0
  have h1 := h.b1
  unfold D.endV D.endB
  split
  · omega
  · have := hb.at_ (d.b.length - (d.back + 1)) (by omega) (by omega)
    omega
theorem fill_ok (d : D) (hb : Bytes d.b) (h : DRaw d) (hw : d.waiting ≤ 23) : DRaw d.fill := by
  obtain ⟨e0, e1, e2, e3⟩ := d.endV_range hb h
  obtain ⟨h1, h2, h3, h4, h5, h6⟩ := h
  refine ⟨by show 0 ≤ d.waiting + 8; omega, by show d.waiting + 8 ≤ 31; omega, ?_, ?_, e2, e3⟩
  · show 0 ≤ d.endV * 2 ^ d.waiting.toNat + d.window
    have : 0 ≤ d.endV * 2 ^ d.waiting.toNat := Int.mul_nonneg e0 (by exact_mod_cast Nat.zero_le _)
    omega
  · show d.endV * 2 ^ d.waiting.toNat + d.window < 2 ^ (d.waiting + 8).toNat
    rw [show (d.waiting + 8).toNat = d.waiting.toNat + 8 from by omega, Int.pow_add]
    have : (d.endV + 1) * 2 ^ d.waiting.toNat ≤ 256 * 2 ^ d.waiting.toNat := Int.mul_le_mul_of_nonneg_right (by omega) (by exact_mod_cast Nat.zero_le _)
    rw [Int.add_mul] at this
    omega
theorem fillL_ok (n : Int) (hn : n ≤ 24) : ∀ (k : Nat) (d : D), Bytes d.b → DRaw d → DRaw (D.fillL k n d) ∧ (D.fillL k n d).b = d.b ∧ (n ≤ d.waiting + 8 * k → n ≤ (D.fillL k n d).waiting) ∧ (D.fillL k n d).count = d.count ∧ (D.fillL k n d).rng = d.rng ∧ (D.fillL k n d).val = d.val ∧ (D.fillL k n d).last = d.last ∧ (D.fillL k n d).front = d.front
  | 0, d, hb, h => ⟨h, rfl, fun hh => by show n ≤ d.waiting; omega, rfl, rfl, rfl, rfl, rfl⟩
  | k + 1, d, hb, h => by
    unfold D.fillL
    split
    · rename_i hc
      obtain ⟨a1, a2, a3, a4⟩ := fillL_ok n hn k d.fill hb (fill_ok d hb h (by omega))
      refine ⟨a1, a2, fun hh => a3 (by show n ≤ d.waiting + 8 + 8 * (k : Int); omega), a4⟩
    · exact ⟨h, rfl, fun _ => by omega, rfl, rfl, rfl, rfl, rfl⟩
theorem bits_ok (d : D) (h : DOk d) (hr : DRaw d) (n : Int) (h0 : 0 ≤ n) (hn : n ≤ 24) (hc : d.count ≤ 900000000000000000) : DOk (d.bits n) ∧ DRaw (d.bits n) ∧ (d.bits n).count = d.count + n ∧ (d.bits n).b = d.b ∧ 0 ≤ d.bitsV n ∧ d.bitsV n < 2 ^ n.toNat := by
  obtain ⟨a1, a2, a3, a4, a5, a6, a7, a8⟩ := fillL_ok n hn 3 d h.bytes hr
  have a3' := a3 (by have := hr.w0; omega)
  have hp : (0 : Int) < 2 ^ n.toNat := by exact_mod_cast Nat.two_pow_pos _
  have ec : (d.bits n).count = d.count + n := by show (D.fillL 3 n d).count + n = _; rw [a4]
  have eb : (d.bits n).b = d.b := a2
  have k0 := h.k0
  refine ⟨⟨⟨by rw [eb]; exact h.bytes, by rw [eb]; exact h.len, by show 0 ≤ (D.fillL 3 n d).last; rw [a7]; exact h.l0, by show (D.fillL 3 n d).last < 256; rw [a7]; exact h.l1, by show 0 ≤ (D.fillL 3 n d).front; rw [a8]; exact h.f0, by rw [eb]; show (D.fillL 3 n d).front ≤ _; rw [a8]; exact h.f1, by omega, by omega⟩,
    by show _ < (D.fillL 3 n d).rng; rw [a5]; exact h.r1, by show (D.fillL 3 n d).rng ≤ _; rw [a5]; exact h.r2, by show 0 ≤ (D.fillL 3 n d).val; rw [a6]; exact h.v0, by show (D.fillL 3 n d).val < (D.fillL 3 n d).rng; rw [a5, a6]; exact h.v1, by omega, by omega⟩, ?_, ec, eb, Int.emod_nonneg _ (by omega), Int.emod_lt_of_pos _ hp⟩
  have hw1 := a1.w1
  refine ⟨by show 0 ≤ (D.fillL 3 n d).waiting - n; omega, by show (D.fillL 3 n d).waiting - n ≤ 31; omega, Int.ediv_nonneg a1.x0 (by omega), ?_, a1.b0, by rw [eb, ← a2]; exact a1.b1⟩
  show (D.fillL 3 n d).window / 2 ^ n.toNat < 2 ^ ((D.fillL 3 n d).waiting - n).toNat
  have hx := a1.x1
  rw [show (D.fillL 3 n d).waiting.toNat = ((D.fillL 3 n d).waiting - n).toNat + n.toNat from by omega, Int.pow_add] at hx
  exact Int.ediv_lt_of_lt_mul hp hx
end Go.Proofs.Ytiabenmgbikllaa.M

-- F4
namespace Go.Proofs.Ytiabenmgbikllaa.M
set_option linter.unusedVariables false
open Go.RowKit Go.Proofs.YtiabenmgbikllaaW.PrintWords Go.Proofs.YtiabenmgbikllaaW.PrintLast Go.Proofs.YtiabenmgbikllaaW.PrintMore Go.Proofs.Ytiabenmgbikllaa.PAll
attribute [local go_sem] max2_int min2_int max_two min_two max_three min_three max_four min_four

theorem end_f (d : D) (h : DBase d) (hr : DRaw d) :
    rc_Dec_end.f d.b d.rng d.val d.last d.front d.back d.window d.waiting d.count d.bad = some (d.endV, d.rng, d.val, d.last, d.front, d.endB, d.window, d.waiting, d.count, d.bad) := by
  have hf := hr.b0
  have hf1 := hr.b1
  have hl := h.len
  unfold rc_Dec_end.f D.endV D.endB
  by_cases hc : d.back ≥ d.b.length
  · rw [if_pos hc, if_pos hc, if_pos hc]
  · rw [if_neg hc, if_neg hc, if_neg hc]
    rw [show wrap64 (d.back + 1) = d.back + 1 from by unfold wrap64; omega, show wrap64 ((d.b.length : Int) - (d.back + 1)) = (d.b.length : Int) - (d.back + 1) from by unfold wrap64; omega, if_pos (by omega), if_pos (by omega)]
    have hb := h.bytes.at_ ((d.b.length : Int) - (d.back + 1)) (by omega) (by omega)
    rw [wraps_u64 _ hb.1 (by omega)]
theorem or_fill (x y : Int) (i : Nat) (hi : i ≤ 23) (hx0 : 0 ≤ x) (hx : x < 2 ^ i) (hy0 : 0 ≤ y) (hy : y < 256) : bits .or .u64 x (IntKind.u64.wrap (y * 2 ^ i)) = y * 2 ^ i + x := by
  have h23 : (2 : Int) ^ i ≤ 2 ^ 23 := by exact_mod_cast Nat.pow_le_pow_right (by decide) hi
  have hp : (0 : Int) < 2 ^ i := by exact_mod_cast Nat.two_pow_pos i
  have h1 : 0 ≤ y * 2 ^ i := Int.mul_nonneg hy0 (by omega)
  have h2 : y * 2 ^ i ≤ 255 * 2 ^ 23 := Int.le_trans (Int.mul_le_mul_of_nonneg_right (show y ≤ 255 by omega) (by omega)) (Int.mul_le_mul_of_nonneg_left h23 (by omega))
  rw [wraps_u64 _ h1 (by omega)]
  have hj := bits_join .u64 63 (by decide) wraps_u64 i (y * 2 ^ i) x h1 (Int.mul_emod_left _ _) (by omega) hx0 hx (by omega)
  rw [← hj]
  obtain ⟨a, ha⟩ := Int.eq_ofNat_of_zero_le hx0
  obtain ⟨b, hb⟩ := Int.eq_ofNat_of_zero_le h1
  rw [hb, ha, (bits_nat .u64 63 (by decide) wraps_u64 a b (by omega) (by omega)).2, (bits_nat .u64 63 (by decide) wraps_u64 b a (by omega) (by omega)).2, Nat.or_comm]
theorem dend_calls (w0 w : World) (g : Nat) (d : D) (h : DecAt w0 w g d) (hd : DBase d) (hr : DRaw d) :
    Calls Try.prog 127 #[.pointer (some ⟨g, 0, none⟩)] w fun r w' => r = .returned (.int .u64 d.endV) ∧ DecAt w0 w' g { d with back := d.endB } ∧ Chg w w' (One g) :=
  (rc_Dec_end.calls g d.b d.rng d.val d.last d.front d.back d.window d.waiting d.count d.bad _ _ _ _ _ _ _ _ _ _ w0 w h.1 h.2 (end_f d hd hr)).mono
    fun r w' ⟨h1, h2, h3, h4⟩ => ⟨h1, (h.of { d with back := d.endB } rfl h2 h3 h4).1, (h.of { d with back := d.endB } rfl h2 h3 h4).2⟩
/-- The cells of a reader. -/
theorem DecAt.cells {w0 w : World} {g : Nat} {d : D} (h : DecAt w0 w g d) : w.cell? ⟨g, 6, none⟩ = some (.int .u64 d.window) ∧ w.cell? ⟨g, 7, none⟩ = some (.int .i64 d.waiting) ∧ w.cell? ⟨g, 8, none⟩ = some (.int .i64 d.count) ∧ w.frozen? ⟨g, 6, none⟩ = false ∧ w.frozen? ⟨g, 7, none⟩ = false ∧ w.frozen? ⟨g, 8, none⟩ = false := by
  obtain ⟨⟨A, c, hb, _, _⟩, _⟩ := h
  exact ⟨cellS91_6 hb, cellS91_7 hb, cellS91_8 hb, blk_frozen hb 6, blk_frozen hb 7, blk_frozen hb 8⟩
set_option maxHeartbeats 2000000 in
set_option maxRecDepth 100000 in
theorem dbits_calls (w0 w : World) (g : Nat) (d : D) (n : Int) (h : DecAt w0 w g d) (hd : DOk d) (hr : DRaw d) (h0 : 0 ≤ n) (hn : n ≤ 24) (hc : d.count ≤ 900000000000000000) :
    Calls Try.prog 89 #[.pointer (some ⟨g, 0, none⟩), .int .i64 n] w fun r w' => r = .returned (.int .i64 (d.bitsV n)) ∧ DecAt w0 w' g (d.bits n) ∧ Chg w w' (One g) := by
  have HH := Aside0.mk (And.intro h (And.intro hd hr))
  clear h hd hr
  have b1 : decide (n < 0) = false := decide_eq_false (by omega)
  have b2 : decide (24 < n) = false := decide_eq_false (by omega)
  go_enter Try.func89, Try.ntmps89
  go_wp2_with fail
  go_loopg [] 3 (fun k wr => ∃ d', Aside0 (D.fillL k n d' = D.fillL 3 n d ∧ DecAt w0 wr g d' ∧ DRaw d' ∧ DBase d' ∧ d'.b = d.b ∧ Chg w wr (One g)) ∧ n ≤ d'.waiting + 8 * k ∧ 0 ≤ d'.waiting ∧ d'.waiting ≤ 31)
  case atStart => exact ⟨d, ⟨rfl, HH.out.1, HH.out.2.2, HH.out.2.1.toDBase, rfl, Chg.refl _ _⟩, by have := HH.out.2.2.w0; omega, HH.out.2.2.w0, HH.out.2.2.w1⟩
  case round =>
    obtain ⟨d', HD, k1, k2, k3⟩ := hrel
    obtain ⟨c6, c7, c8, z6, z7, z8⟩ := HD.out.2.1.cells
    by_cases hlt : d'.waiting < n
    · obtain ⟨e0, e1, e2, e3⟩ := d'.endV_range HD.out.2.2.2.1.bytes HD.out.2.2.1
      have hor := or_fill d'.window d'.endV d'.waiting.toNat (by omega) HD.out.2.2.1.x0 HD.out.2.2.1.x1 e0 e1
      have HO := Aside0.mk hor
      clear hor
      go_wp2_with fail
      go_region_with (first
        | (go_at_call 127
           refine (dend_calls w0 _ g d' (HD.out.2.1.chg (S := No) (by repeat (first | exact Chg.refl _ No | apply Chg.drew | apply Chg.drewN)) (fun h => h) (fun _ h => False.elim h)) HD.out.2.2.2.1 HD.out.2.2.1).mono ?_
           rintro r w2 ⟨rfl, h1, h2⟩
           have p6 : w2.cell? ⟨g, 6, none⟩ = some (.int .u64 d'.window) := h1.cells.1
           have p7 : w2.cell? ⟨g, 7, none⟩ = some (.int .i64 d'.waiting) := h1.cells.2.1
           have y6 : w2.frozen? ⟨g, 6, none⟩ = false := h1.cells.2.2.2.1
           have y7 : w2.frozen? ⟨g, 7, none⟩ = false := h1.cells.2.2.2.2.1
           have H2 : Aside0 (DecAt w0 w2 g { d' with back := d'.endB } ∧ Chg wr w2 (One g)) := ⟨h1, Chg.trans (S := One g) (by repeat (first | exact Chg.refl _ (One g) | apply Chg.drew | apply Chg.drewN)) h2 (Ext.refl _ _)⟩
           clear h1 h2))
      all_goals
        have HS : Aside0 (DecAt w0 ((w2.setCell ⟨g, 6, none⟩ (.int .u64 (d'.endV * 2 ^ d'.waiting.toNat + d'.window))).setCell ⟨g, 7, none⟩ (.int .i64 (d'.waiting + 8))) g d'.fill ∧ Chg w ((w2.setCell ⟨g, 6, none⟩ (.int .u64 (d'.endV * 2 ^ d'.waiting.toNat + d'.window))).setCell ⟨g, 7, none⟩ (.int .i64 (d'.waiting + 8))) (One g)) := by
          obtain ⟨⟨q1, q2⟩, q3⟩ := H2.out
          refine ⟨⟨(q1.set_6 _).set_7 _, (q2.setCell (p := ⟨g, 6, none⟩) q1.ge _).setCell (p := ⟨g, 7, none⟩) q1.ge _⟩, ?_⟩
          exact ((HD.out.2.2.2.2.2.trans q3 (Ext.refl _ _)).setCell (p := ⟨g, 6, none⟩) (.inl rfl) _).setCell (p := ⟨g, 7, none⟩) (.inl rfl) _
        rw [HO.out]
        go_wp2_with fail
        go_roundg (gk - 1)
        case measure => omega
        case rel =>
          refine ⟨d'.fill, ⟨?_, HS.out.1, fill_ok d' HD.out.2.2.2.1.bytes HD.out.2.2.1 (by omega), ?_, HD.out.2.2.2.2.1, HS.out.2⟩, ?_, ?_, ?_⟩
          · rw [← HD.out.1]
            obtain ⟨m, rfl⟩ : ∃ m, gk = m + 1 := ⟨gk - 1, by omega⟩
            show D.fillL m n d'.fill = (if d'.waiting < n then _ else _)
            rw [if_pos hlt]
          · obtain ⟨q1, q2, q3, q4, q5, q6, q7, q8⟩ := HD.out.2.2.2.1
            exact ⟨q1, q2, q3, q4, q5, q6, q7, q8⟩
          · show n ≤ d'.waiting + 8 + 8 * ((gk - 1 : Nat) : Int); omega
          · show 0 ≤ d'.waiting + 8; omega
          · show d'.waiting + 8 ≤ 31; omega
    · have he : Aside0 (D.fillL 3 n d = d') := ⟨by
        rw [← HD.out.1]
        cases gk with
        | zero => rfl
        | succ m => show (if d'.waiting < n then _ else _) = _; rw [if_neg hlt]⟩
      have hp1 : (1 : Int) ≤ 2 ^ n.toNat := by exact_mod_cast Nat.one_le_two_pow
      have hp2 : (2 : Int) ^ n.toNat ≤ 2 ^ 24 := by exact_mod_cast Nat.pow_le_pow_right (by decide) (show n.toNat ≤ 24 by omega)
      have x0 := HD.out.2.2.1.x0
      have x1 : d'.window < 2 ^ 31 := Int.lt_of_lt_of_le HD.out.2.2.1.x1 (by exact_mod_cast Nat.pow_le_pow_right (by decide) (show d'.waiting.toNat ≤ 31 by omega))
      have m1 : IntKind.u64.wrap (1 * 2 ^ n.toNat) = 2 ^ n.toNat := by rw [Int.one_mul]; exact wraps_u64 _ (by omega) (by omega)
      have m2 : IntKind.u64.wrap (2 ^ n.toNat - 1) = 2 ^ n.toNat - 1 := wraps_u64 _ (by omega) (by omega)
      have m3 : bits .and .u64 d'.window (2 ^ n.toNat - 1) = d'.window % 2 ^ n.toNat := bits_mask .u64 63 (by decide) wraps_u64 n.toNat (by omega) _ x0 (by omega)
      have m4 : 0 ≤ d'.window % 2 ^ n.toNat := Int.emod_nonneg _ (by omega)
      have m5 : d'.window % 2 ^ n.toNat < 2 ^ n.toNat := Int.emod_lt_of_pos _ (by omega)
      have m6 : 0 ≤ d'.window / 2 ^ n.toNat := Int.ediv_nonneg x0 (by omega)
      have m7 : d'.window / 2 ^ n.toNat ≤ d'.window := Int.ediv_le_self _ x0
      have e1 := HD.out.2.2.2.1.c0
      have hcnt : d'.count = d.count := by rw [← he.out]; exact (fillL_ok n hn 3 d HH.out.2.1.bytes HH.out.2.2).2.2.2.1
      have hk0 := HH.out.2.1.k0
      go_wp2_with fail
      go_region
      go_wp2_with fail
      try go_region
      go_returns
      have hb : d.bits n = { d' with window := d'.window / 2 ^ n.toNat, waiting := d'.waiting - n, count := d.count + n } := by unfold D.bits; rw [he.out, hcnt]
      have hv : d.bitsV n = d'.window % 2 ^ n.toNat := by unfold D.bitsV; rw [he.out]
      obtain ⟨q1, q2⟩ := HD.out.2.1
      refine ⟨by rw [hv]; rfl, ?_, ?_⟩
      · rw [hb]
        refine ⟨(((q1.set_6 _).set_7 _).set_8 _).drew, ?_⟩
        exact (((q2.setCell (p := ⟨g, 6, none⟩) q1.ge _).setCell (p := ⟨g, 7, none⟩) q1.ge _).setCell (p := ⟨g, 8, none⟩) q1.ge _).drew
      · exact (((HD.out.2.2.2.2.2.setCell (p := ⟨g, 6, none⟩) (.inl rfl) _).setCell (p := ⟨g, 7, none⟩) (.inl rfl) _).setCell (p := ⟨g, 8, none⟩) (.inl rfl) _).drew
end Go.Proofs.Ytiabenmgbikllaa.M

-- G4
namespace Go.Proofs.Ytiabenmgbikllaa.M
set_option linter.unusedVariables false
open Go.RowKit Go.Proofs.YtiabenmgbikllaaW.PrintWords Go.Proofs.YtiabenmgbikllaaW.PrintLast Go.Proofs.YtiabenmgbikllaaW.PrintMore Go.Proofs.Ytiabenmgbikllaa.PAll
attribute [local go_sem] max2_int min2_int max_two min_two max_three min_three max_four min_four

theorem info3' : (Try.prog.info? 3).map (fun i => (i.zero, i.size, i.bytes)) = some (some (.int .i64 0), 1, 8) := by kernel_rfl
end Go.Proofs.Ytiabenmgbikllaa.M

-- G5
namespace Go.Proofs.Ytiabenmgbikllaa.M
set_option linter.unusedVariables false
open Go.RowKit Go.Proofs.YtiabenmgbikllaaW.PrintWords Go.Proofs.YtiabenmgbikllaaW.PrintLast Go.Proofs.YtiabenmgbikllaaW.PrintMore Go.Proofs.Ytiabenmgbikllaa.PAll
attribute [local go_sem] max2_int min2_int max_two min_two max_three min_three max_four min_four

theorem dsym_at (w0 w w1 : World) (g : Nat) (d : D) (i : Nat) (v : Value) (h : DecAt w0 w g d) (hd : DOk d) (hi : i < 7) (ht : TabAt w w1 (icdf i) v) (hk : d.count ≤ 900000000000000000) :
    Calls Try.prog 87 #[.pointer (some ⟨g, 0, none⟩), v] w1 fun r w' => r = .returned (.int .i64 (d.symV (icdf i))) ∧ DecAt w0 w' g (d.sym (icdf i)) ∧ Chg w w' (One g) := by
  obtain ⟨A, c, rfl, hr, hc, hb, hch⟩ := ht
  exact (dsym_calls w0 w1 g d (icdf i) A c (h.chg hch (fun hh => hh) (fun _ hh => hh.elim)) hd (icdf_ok i hi) (icdf_pos i) hr hc (fun ad ha hh => by have := hb ad ha; have := h.lt; omega) hk).mono
    fun r w' ⟨hr, h1, h2⟩ => ⟨hr, h1, (hch.mono (fun _ hh => hh.elim)).trans h2 (Ext.refl _ _)⟩

theorem own_two {w : World} {e : TypeId} {n : Nat} {z : Value} {xs : List Value} (h : w.ownsRow 0 e 1 z (n + 1) xs) : ∃ b cap, z = .slice (some ⟨b, 0, none⟩) (n + 1) cap := by
  rcases h.2 with ⟨_, h0⟩ | ⟨b, cap, _, hv, _⟩
  · omega
  · exact ⟨b, cap, hv⟩
theorem small_ok (d : D) (h : DOk d) (ft : Int) (f0 : 1 ≤ ft) (f1 : ft ≤ 32768) (hk : d.count ≤ 900000000000000000) : DOk (d.small ft) ∧ (d.small ft).count ≤ d.count + 24 ∧ (d.small ft).b = d.b ∧ 0 ≤ d.choose ft ∧ d.choose ft < ft := by
  have hp := small_place d h ft f0 f1
  obtain ⟨a, b, c⟩ := take_ok d h _ _ ft hp hk
  have := hp.a0
  have := hp.a1
  have := hp.a2
  exact ⟨a, b, c, by omega, by omega⟩

end Go.Proofs.Ytiabenmgbikllaa.M

-- E6
namespace Go.Proofs.Ytiabenmgbikllaa.M
open Go.RowKit Go.Proofs.YtiabenmgbikllaaW.PrintWords Go.Proofs.YtiabenmgbikllaaW.PrintLast Go.Proofs.YtiabenmgbikllaaW.PrintMore
attribute [local go_sem] max2_int min2_int max_two min_two max_three min_three max_four min_four

theorem nz_calls (w : World) (x : Int) : Calls Try.prog 97 #[.int .u8 x] w fun r w' => r = .returned (.bool (x != 0)) ∧ w = w' := by
  go_enter Try.func97, Try.ntmps97
  go_wp2
  go_returns
  exact ⟨rfl, rfl⟩

/-- One of the numbers is not nought. -/
def anyNZ (xs : List Int) : Bool := xs.any (fun x => x != 0)
def SomeNZ (xs : List Int) (w : World) (e : Ending) (w' : World) : Prop := ∃ r : Int, e = .returned (.int .i64 r) ∧ decide (0 ≤ r) = anyNZ xs ∧ w = w'

theorem anyNZ_hit (xs : List Int) (k : Nat) (h : k < xs.length) (hx : rd xs k ≠ 0) : anyNZ xs = true := by
  unfold anyNZ
  rw [List.any_eq_true]
  refine ⟨xs[k], List.getElem_mem h, ?_⟩
  have : rd xs k = xs[k] := by simp [rd, h]
  rw [this] at hx
  simpa using hx
theorem anyNZ_none (xs : List Int) (h : ∀ k : Nat, k < xs.length → rd xs k = 0) : anyNZ xs = false := by
  unfold anyNZ
  rw [List.any_eq_false]
  intro x hx
  obtain ⟨k, hk, rfl⟩ := List.getElem_of_mem hx
  have := h k hk
  have e : rd xs k = xs[k] := by simp [rd, hk]
  rw [e] at this
  simp [this]

set_option maxHeartbeats 1000000 in
set_option maxRecDepth 100000 in
theorem indexFunc_calls (w : World) (A : Option Addr) (c : Nat) (xs : List Int) (hr : ReadsInt w .u8 A xs.length xs) (hn : xs.length ≤ 140737488355328) :
    Calls Try.prog 133 #[.slice A xs.length c, .func (.func 97) #[] #[]] w (SomeNZ xs w) := by
  have HR := Aside0.mk hr
  clear hr
  go_enter Try.func133, Try.ntmps133
  go_wp2
  go_loopg [5, 8] xs.length (fun k u5 u8 wr => ∃ i : Nat, wr = w ∧ u8 = .int .i64 i ∧ k + i = xs.length ∧ Aside0 (∀ j : Nat, j < i → rd xs j = 0))
  case atStart => exact ⟨0, rfl, rfl, by omega, ⟨fun j hj => absurd hj (by omega)⟩⟩
  case round =>
    obtain ⟨i, rfl, rfl, hk, HZ⟩ := hrel
    by_cases hi : i < xs.length
    · obtain ⟨ad, rfl, hx⟩ := HR.out.at_ (i : Int) (by omega) (by omega)
      simp only [Int.toNat_natCast] at hx
      by_cases hz : rd xs i = 0
      · have hzb : (rd xs i != 0) = false := by simp [hz]
        have HX := Aside0.mk hz
        clear hz
        go_wp2_with (go_at_call 97; refine (nz_calls _ _).mono ?_; rintro r w1 ⟨rfl, rfl⟩)
        go_roundg (gk - 1)
        case measure => omega
        case rel => exact ⟨i + 1, rfl, by go_num, by omega, ⟨fun j hj => by rcases Nat.lt_succ_iff_lt_or_eq.1 hj with h | h; exact HZ.out j h; rw [h]; exact HX.out⟩⟩
      · have hzb : (rd xs i != 0) = true := by simp [hz]
        have HX := Aside0.mk (anyNZ_hit xs i hi hz)
        clear hz
        go_wp2_with (go_at_call 97; refine (nz_calls _ _).mono ?_; rintro r w1 ⟨rfl, rfl⟩)
        go_returns
        exact ⟨i, rfl, by rw [HX.out]; simp, rfl⟩
    · have HX := Aside0.mk (anyNZ_none xs (fun k hk => HZ.out k (by omega)))
      clear HZ
      go_wp2
      go_returns
      exact ⟨-1, rfl, by rw [HX.out]; simp, rfl⟩

set_option maxHeartbeats 1000000 in
set_option maxRecDepth 100000 in
theorem contains_calls (w : World) (A : Option Addr) (c : Nat) (xs : List Int) (hr : ReadsInt w .u8 A xs.length xs) (hn : xs.length ≤ 140737488355328) :
    Calls Try.prog 96 #[.slice A xs.length c, .func (.func 97) #[] #[]] w fun r w' => r = .returned (.bool (anyNZ xs)) ∧ w = w' := by
  have HR := Aside0.mk hr
  clear hr
  go_enter Try.func96, Try.ntmps96
  go_wp2_with fail
  refine (indexFunc_calls w _ _ xs HR.out hn).mono ?_
  rintro r w1 ⟨r, rfl, hb, rfl⟩
  have HB := Aside0.mk hb
  clear hb
  go_wp2
  go_returns
  refine ⟨?_, rfl⟩
  rw [← HB.out]
  rfl
end Go.Proofs.Ytiabenmgbikllaa.M

-- A2
namespace Go.Proofs.Ytiabenmgbikllaa.M
open Go.RowKit Go.Proofs.YtiabenmgbikllaaW.PrintWords Go.Proofs.YtiabenmgbikllaaW.PrintLast Go.Proofs.YtiabenmgbikllaaW.PrintMore

section
variable {P : Program} {ops : Array Oper} {rest : List Oper} {o : Oper} {a : Act} {Q : Exit → Act → World → Prop}
theorem Chg.setRow {w : World} {g : Nat} (cs : Array Value) : Chg w (w.setRow g cs) (fun b => b = g) :=
  ⟨rfl, rfl, rfl, by simp [World.setRow], fun k _ hn => setRow_other w g k cs hn⟩
theorem copyRow {W : World} (hgd : o.guard = none) (d s : Operand) (T e : TypeId) (k : IntKind) (ho : o.op = .call { callee := .builtin .copy, args := #[d, s], argTypes := #[T, T] })
    (hu : P.underlying T = some (.slice e)) (hsz : (P.info? e).map (·.size) = some 1) (g n cap : Nat) (xs ys : List Int) (A : Option Addr) (c : Nat)
    (hd : a.eval d = .slice (some ⟨g, 0, none⟩) n cap) (hs : a.eval s = .slice A ys.length c) (HO : W.ownsRow 0 e 1 (.slice (some ⟨g, 0, none⟩) n cap) n (nums k xs)) (HR : ReadsInt W k A ys.length ys)
    (h : ∀ w1, w1.ownsRow 0 e 1 (.slice (some ⟨g, 0, none⟩) n cap) n (nums k (ys.take n ++ xs.drop ys.length)) → Chg W w1 (fun b => b = g) → wpList P ops Q rest (a.put o.dst (goInt (Nat.min ys.length n))) w1) :
    wpList P ops Q (o :: rest) a W := by
  have hxl : xs.length = n := by have := HO.1; simpa [nums] using this
  by_cases h0 : Nat.min ys.length n = 0
  · have hh := h W (by
      have : ys.take n ++ xs.drop ys.length = xs := by
        by_cases hy : ys.length = 0
        · rw [List.eq_nil_of_length_eq_zero hy]; simp
        · have hn : n = 0 := by
            have h1 : min ys.length n = 0 := h0
            omega
          rw [hn] at hxl
          rw [List.eq_nil_of_length_eq_zero hxl, hn]; simp
      rw [this]; exact HO) (Chg.refl W _)
    rw [h0] at hh
    exact wpList_copy_nothing hgd d s T T ho e hu hsz _ _ n cap ys.length c hd hs h0 hh
  · have h1 : 0 < min ys.length n := Nat.pos_of_ne_zero h0
    obtain ⟨ad, rfl, hx⟩ := HR.2.2 (by omega)
    rcases HO.2 with ⟨hv, _⟩ | ⟨g', cap', cur, hv, hb, hg, hnc, hcm, hcs, htake⟩
    · cases hv
    · injection hv with e1 e2 e3
      injection e1 with e1
      injection e1 with e1 _ _
      subst e1
      subst e3
      have hlen : (nums k (ys.take n)).length = Nat.min ys.length n := by
        rw [nums_length, List.length_take]; exact Nat.min_comm _ _
      have hcl : cur.size = cap := by omega
      have hfit : 0 + (nums k (ys.take n)).length ≤ cur.size := by
        rw [hlen]
        have : Nat.min ys.length n ≤ n := Nat.min_le_right _ _
        omega
      have hh := h (W.setRow g (cur.toList.take 0 ++ (nums k (ys.take n) ++ cur.toList.drop (0 + (nums k (ys.take n)).length))).toArray) (by
        refine ⟨?_, .inr ⟨g, cap, (cur.toList.take 0 ++ (nums k (ys.take n) ++ cur.toList.drop (0 + (nums k (ys.take n)).length))).toArray, rfl, hb, setRow_heap W g _ _ e _ hg, hnc, hcm, ?_, ?_⟩⟩
        · simp [nums]; omega
        · simp [nums]; omega
        · have ht : cur.toList.take n = nums k xs := by simpa using htake
          simp only [List.take_zero, List.nil_append, Nat.mul_one, Nat.zero_add, nums_append]
          rw [List.take_append, hlen]
          have hm : Nat.min ys.length n = min ys.length n := rfl
          rw [hm]
          rw [List.take_of_length_le (by rw [hlen]; exact Nat.min_le_right _ _), ← List.drop_take]
          rw [ht]
          congr 1
          simp only [nums, List.map_drop]
          by_cases hyn : ys.length ≤ n
          · rw [Nat.min_eq_left hyn]
          · rw [List.drop_eq_nil_of_le (by simp; omega), List.drop_eq_nil_of_le (by simp; omega)]) (Chg.setRow _)
      refine wpList_copy_own hgd d s T T ho e hu hsz g 0 n cap ad ys.length c hd hs cur e hg (nums k (ys.take n)) hlen (fun j v hj => ?_) hfit (fun u hu => by obtain ⟨x, _, rfl⟩ := List.mem_map.1 hu; rfl) (by rw [← hlen] at hh; exact hh)
      have hj' : j < min ys.length n := by have := (List.getElem?_eq_some_iff.1 hj).1; rw [hlen] at this; exact this
      rw [hx j (by omega), ← hj]
      have a1 : j < ys.length := by omega
      have a2 : j < n := by omega
      simp [nums, List.getD, a1, a2]
end
end Go.Proofs.Ytiabenmgbikllaa.M

-- E9
namespace Go.Proofs.Ytiabenmgbikllaa.M
open Go.RowKit Go.Proofs.YtiabenmgbikllaaW.PrintWords Go.Proofs.YtiabenmgbikllaaW.PrintLast Go.Proofs.YtiabenmgbikllaaW.PrintMore Go.Proofs.Ytiabenmgbikllaa.PAll

/-- Two numbers of many bytes: -1, 0, 1. -/
def cmpL : List Int → List Int → Int
  | [], [] => 0
  | [], _ :: _ => -1
  | _ :: _, [] => 1
  | x :: xs, y :: ys => if x < y then -1 else if x > y then 1 else cmpL xs ys
theorem cmp1 (a b : Int) : cmp_Compare_byte.f a b = some (if a < b then -1 else if a > b then 1 else 0) := by
  simp only [cmp_Compare_byte.f, cmp_isNaN_byte.f, Option.bind_some, bne_self_eq_false, Bool.false_eq_true, if_false]
  split
  · rfl
  · split <;> rfl
theorem cmpL_run (l0 l1 : List Int) (hl : l0.length = l1.length) (hb : l0.length ≤ 1099511627776) (d : Nat) : ∀ (k i : Nat), i + d = l0.length → d < k →
    slices_Compare_byte_byte.l0 k l0 l1 l0 (l0.length : Int) (i : Int) = some (cmpL (l0.drop i) (l1.drop i)) := by
  induction d with
  | zero =>
    intro k i hi hk
    obtain ⟨k, rfl⟩ : ∃ m, k = m + 1 := ⟨k - 1, by omega⟩
    simp only [slices_Compare_byte_byte.l0]
    rw [if_neg (by omega), if_neg (by omega), List.drop_eq_nil_of_le (by omega), List.drop_eq_nil_of_le (by omega)]
    rfl
  | succ d ih =>
    intro k i hi hk
    obtain ⟨k, rfl⟩ : ∃ m, k = m + 1 := ⟨k - 1, by omega⟩
    have h0 : i < l0.length := by omega
    have h1 : i < l1.length := by omega
    simp only [slices_Compare_byte_byte.l0]
    rw [if_pos (by omega), if_pos (by omega), if_pos (by omega), if_neg (by omega), if_pos (by omega), cmp1]
    simp only [Option.bind_some]
    rw [List.drop_eq_getElem_cons h0, List.drop_eq_getElem_cons h1]
    have e0 : rd l0 i = l0[i] := by simp [rd, h0]
    have e1 : rd l1 i = l1[i] := by simp [rd, h1]
    rw [e0, e1]
    simp only [cmpL]
    by_cases ha : l0[i] < l1[i]
    · rw [if_pos ha, if_neg (by decide), if_pos ha]
    · rw [if_neg ha]
      by_cases hb' : l0[i] > l1[i]
      · rw [if_pos hb', if_neg (by decide), if_neg ha, if_pos hb']
      · rw [if_neg hb', if_pos rfl, if_neg ha, if_neg hb']
        have := ih k (i + 1) (by omega) (by omega)
        rw [show wrap64 ((i : Int) + 1) = ((i + 1 : Nat) : Int) from by unfold wrap64; omega]
        exact this
theorem cmpL_f (l0 l1 : List Int) (hl : l0.length = l1.length) (hb : l0.length ≤ 1099511627776) : slices_Compare_byte_byte.f (l0.length + 1) l0 l1 = some (cmpL l0 l1) := by
  have := cmpL_run l0 l1 hl hb l0.length (l0.length + 1) 0 (by omega) (by omega)
  simpa [slices_Compare_byte_byte.f] using this
/-- slices.Compare of two slices that the call owns. -/
theorem compare_calls (w : World) (n : Nat) (A0 A1 : Option Addr) (c0 c1 : Nat) (l0 l1 : List Int) (h0 : w.ownsRow 0 5 1 (.slice A0 n c0) n (nums .u8 l0)) (h1 : w.ownsRow 0 5 1 (.slice A1 n c1) n (nums .u8 l1)) (hb : n ≤ 1099511627776) :
    Calls Try.prog 99 #[.slice A0 n c0, .slice A1 n c1] w fun r w' => r = .returned (.int .i64 (cmpL l0 l1)) ∧ Drawn0 w w' := by
  have e0 : l0.length = n := by have := h0.1; simpa [nums] using this
  have e1 : l1.length = n := by have := h1.1; simpa [nums] using this
  have := slices_Compare_byte_byte.calls (l0.length + 1) A0 c0 l0 A1 c1 l1 (cmpL l0 l1) w (Kd.C_of_reads (d := 0) (readsInt_of.1 (by rw [e0]; exact own_reads' h0))) (by rw [e0]; exact own_le h0)
    (Kd.C_of_reads (d := 0) (readsInt_of.1 (by rw [e1]; exact own_reads' h1))) (by rw [e1]; exact own_le h1) (cmpL_f l0 l1 (by omega) (by omega))
  rwa [e0, e1] at this
end Go.Proofs.Ytiabenmgbikllaa.M

-- E8
namespace Go.Proofs.Ytiabenmgbikllaa.M
open Go.RowKit Go.Proofs.YtiabenmgbikllaaW.PrintWords Go.Proofs.YtiabenmgbikllaaW.PrintLast Go.Proofs.YtiabenmgbikllaaW.PrintMore Go.Proofs.Ytiabenmgbikllaa.PAll
attribute [local go_sem] max2_int min2_int max_two min_two max_three min_three max_four min_four

/-- The code's lower end, as bytes. -/
def E.all (e : E) : List Int := e.told ++ [e.val / 8388608 % 256, e.val / 32768 % 256, e.val / 128 % 256, e.val * 2 % 256]
/-- The bit i of the end is laid into the bytes. -/
def layBit (raw : List Int) (n : Nat) (out : List Int) (i : Nat) : List Int :=
  out.set (n - 1 - i / 8) (bits .or .u8 (bits .andNot .u8 (rd out ((n - 1 - i / 8 : Nat) : Int)) (2 ^ (i % 8))) (bits .and .u8 (rd raw ((i / 8 : Nat) : Int)) (2 ^ (i % 8))))
def layBits (raw : List Int) (n : Nat) (out : List Int) : Nat → List Int
  | 0 => out
  | i + 1 => layBit raw n (layBits raw n out i) i
def E.out0 (e : E) (n : Nat) : List Int := e.all.take n ++ (List.replicate n 0).drop e.all.length
def E.out1 (e : E) (n : Nat) : List Int := if n < e.all.length ∧ anyNZ (e.all.drop n) = true then increase (e.out0 n) 0 else e.out0 n
def E.out2 (e : E) (n : Nat) : List Int := layBits e.raw n (e.out1 n) e.rawBits.toNat
def E.done (e : E) (n : Nat) : List Int := if cmpL (e.out2 n) (e.out1 n) < 0 then increase (e.out2 n) e.rawBits.toNat else e.out2 n
structure EOkR (e : E) : Prop where
  b0 : 0 ≤ e.rawBits
  len : (e.raw.length : Int) = (e.rawBits + 7) / 8
  cnt : e.count = 33 + 8 * e.told.length + e.rawBits
  tb : Bytes e.told
  rb : Bytes e.raw

theorem bitLenAux_lt : ∀ n x k, x < 2 ^ k → Lib.bitLenAux n x ≤ k
  | 0, _, _, _ => Nat.zero_le _
  | n + 1, x, 0, h => by
    have : x = 0 := by simpa using h
    simp [Lib.bitLenAux, this]
  | n + 1, x, k + 1, h => by
    have := bitLenAux_lt n (x / 2) k (by rw [Nat.pow_succ] at h; omega)
    simp only [Lib.bitLenAux]
    split <;> omega
theorem bitLen_le32 (x : Nat) (h : x ≤ 2147483648) : Lib.bitLen x ≤ 32 := bitLenAux_lt 64 x 32 (by omega)
theorem Bytes.app {a b : List Int} (h : Bytes a) (k : Bytes b) : Bytes (a ++ b) := fun x hx => by
  rcases List.mem_append.1 hx with hx | hx
  · exact h x hx
  · exact k x hx
theorem Bytes.rep (n : Nat) : Bytes (List.replicate n 0) := fun x hx => by rw [List.eq_of_mem_replicate hx]; omega
theorem Bytes.take {a : List Int} (h : Bytes a) (n : Nat) : Bytes (a.take n) := fun x hx => h x (List.mem_of_mem_take hx)
theorem Bytes.drop {a : List Int} (h : Bytes a) (n : Nat) : Bytes (a.drop n) := fun x hx => h x (List.mem_of_mem_drop hx)
theorem E.all_bytes (e : E) (h : EOkR e) : Bytes e.all := h.tb.app (fun x hx => by
  simp at hx
  omega)
theorem E.out0_bytes (e : E) (n : Nat) (h : EOkR e) : Bytes (e.out0 n) := ((e.all_bytes h).take n).app ((Bytes.rep n).drop _)

theorem wrap_u8_range (x : Int) : 0 ≤ IntKind.u8.wrap x ∧ IntKind.u8.wrap x < 256 := by rw [IntKind.wrap_u8]; omega
theorem bits_u8_range (o : BinOp) (a b : Int) : 0 ≤ bits o .u8 a b ∧ bits o .u8 a b < 256 := by
  unfold bits
  split <;> exact wrap_u8_range _
theorem layBits_bytes (raw : List Int) (n : Nat) (out : List Int) (h : Bytes out) : ∀ i, Bytes (layBits raw n out i)
  | 0 => h
  | i + 1 => (layBits_bytes raw n out h i).set _ _ (bits_u8_range _ _ _)
theorem increase_bytes (l : List Int) (p : Nat) (h : Bytes l) : Bytes (increase l p) := by
  unfold increase
  generalize (2 : Int) ^ (p % 8) = c
  generalize l.length - p / 8 = k
  induction k generalizing l c with
  | zero => exact h
  | succ k ih =>
    unfold incN
    split
    · exact ih _ (h.set _ _ (by omega)) _
    · exact h
theorem E.out1_bytes (e : E) (n : Nat) (h : EOkR e) : Bytes (e.out1 n) := by
  unfold E.out1
  split
  · exact increase_bytes _ _ (e.out0_bytes n h)
  · exact e.out0_bytes n h
theorem E.out2_bytes (e : E) (n : Nat) (h : EOkR e) : Bytes (e.out2 n) := layBits_bytes _ _ _ (e.out1_bytes n h) _

set_option maxHeartbeats 2000000 in
set_option maxRecDepth 100000 in
theorem edone_calls (w : World) (f : Nat → Prop) (g : Nat) (e : E) (n : Nat) (h : EncAt w f g e) (hk : EOk e) (hr : EOkR e) (hn : n ≤ 1275) (hfit : e.tell ≤ 8 * n) :
    Calls Try.prog 44 #[.pointer (some ⟨g, 0, none⟩), .int .i64 n] w fun r w' => ∃ v, r = .returned (.tuple #[v, .int .i64 0]) ∧ w'.ownsRow 0 5 1 v n (nums .u8 (e.done n)) ∧ Chg w w' No ∧ Ge w.heap.size (blkOf v) := by
  have HK := Aside0.mk (And.intro h (And.intro hk hr))
  clear h hk hr
  go_enter Try.func44, Try.ntmps44
  go_upto_region 5 with (go_at_call 41; refine (etell_calls _ f g e HK.out.1 HK.out.2.1).mono ?_; rintro r w1 ⟨rfl, nd, rfl⟩)
  obtain ⟨⟨vt, vr, hE⟩, hok, hokr⟩ := HK.out
  have CE : Aside0 (∀ W, Chg w W No → EAt W f g e vt vr) := ⟨fun W hW => hE.chg hW (fun _ _ hh => hh)⟩
  go_cut [6] (fun s6 wx => Aside0 (wx.ownsRow 0 5 1 s6 e.all.length (nums .u8 e.all) ∧ Chg w wx No ∧ Ge w.heap.size (blkOf s6)))
  case first =>
    have CR : Aside0 (∀ W, Chg w W No → Rd W .u8 vt e.told) := ⟨fun W hW => Rd.own (CE.out W hW).ot⟩
    have k0 := hE.c0
    have k1 := hE.c1
    have hgs : g < w.heap.size := hE.lt g hE.hg
    have v0 := hok.v0
    have v1 := hok.v1
    have hln := hok.n
    have u1 : IntKind.u8.wrap (e.val / 8388608) = e.val / 8388608 % 256 := IntKind.wrap_u8 _
    have u2 : IntKind.u8.wrap (e.val / 32768) = e.val / 32768 % 256 := IntKind.wrap_u8 _
    have u3 : IntKind.u8.wrap (e.val / 128) = e.val / 128 % 256 := IntKind.wrap_u8 _
    have u4 : IntKind.u8.wrap (e.val * 2) = e.val * 2 % 256 := IntKind.wrap_u8 _
    have u5 : IntKind.u64.wrap (e.val * 2) = e.val * 2 := wraps_u64 _ (by omega) (by omega)
    clear hE hok hokr
    go_region_held3 (fun w' => w'.cell? ⟨g, 0, none⟩ = some vt ∧ w'.cell? ⟨g, 1, none⟩ = some (.int .u64 e.val)) (first | go_keep | exact ⟨by assumption, by assumption⟩) (first
      | (refine appNs rfl (.tmp 29) (.tmp 54) 26 5 .u8 1 rfl Try.underlying26 info5 (by omega) _ e.told [e.val / 8388608 % 256, e.val / 32768 % 256, e.val / 128 % 256, e.val * 2 % 256] _ 4 4 rfl rfl rfl ?_ ?_ ?_ ?_
         · intro j hj
           have hj4 : j = 0 ∨ j = 1 ∨ j = 2 ∨ j = 3 := by omega
           rcases hj4 with rfl | rfl | rfl | rfl <;> first | exact blk_cell HB.out _ | go_simp
         · first
           | exact own_alloc HO.out.1 _
           | exact HO.out.1
         · omega
         intro vb w2 ho hch hxt
         have hch2 : Chg w w2 No := by
           refine Chg.trans ?_ hch (Ext.new HO.out.2.2)
           repeat (first | exact HO.out.2.1 | apply Chg.alloc | apply Chg.drew | apply Chg.drewN)
         have hge2 : Ge w.heap.size (blkOf vb) := by
           refine HO.out.2.2.ext ?_ hxt
           refine Nat.le_trans HO.out.2.1.size ?_
           first | exact Nat.le_refl _ | simp
         obtain ⟨r0, r1, _, _, _, _, rf⟩ := ecell (CE.out w2 hch2).blk
         have HA := Aside0.mk (And.intro ho (And.intro hch2 hge2))
         clear ho hch hxt hch2 hge2 rf)
      | (go_at_call 69
         refine (clone_calls _ vt e.told (CR.out _ (by repeat (first | exact Chg.refl _ _ | apply Chg.alloc | apply Chg.drew | apply Chg.drewN))) (by omega)).mono ?_
         rintro r w1 ⟨va, rfl, ho, hch, hge⟩
         have hch' : Chg w w1 No := Chg.trans (by repeat (first | exact Chg.refl _ _ | apply Chg.alloc | apply Chg.drew | apply Chg.drewN)) hch (Ext.refl _ _)
         obtain ⟨q0, q1, _, _, _, _, qf⟩ := ecell (CE.out w1 hch').blk
         have hgs1 : g < w1.heap.size := (CE.out w1 hch').lt g (CE.out w1 hch').hg
         try have HB := Aside0.mk (hch.blk (g := w.heap.size) (o := .cells #[.int .u8 (e.val / 8388608 % 256), .int .u8 (e.val / 32768 % 256), .int .u8 (e.val / 128 % 256), .int .u8 (e.val * 2 % 256)] 5) (heap_alloc_new w _) (fun h => h))
         have HO := Aside0.mk (And.intro ho (And.intro hch' (show Ge w.heap.size (blkOf va) from fun b hb => by have := hge b hb; simp at this; omega)))
         clear ho hch hge hch' qf))
    all_goals
      go_wp2_with fail
      go_meet
      exact HA
  case rest =>
    clear hE hok hokr
    obtain ⟨A6, c6, rfl⟩ := own_slice hcut.out.1
    have hmk := print_make (P := Try.prog) 26 5 .u8 1 Try.underlying26 info5 (by omega) n (by omega)
    have hsz5 : (Try.prog.info? 5).map (·.size) = some 1 := by
      obtain ⟨i0, hi, hz0, hz1, hz2⟩ := info_parts info5
      rw [hi]; simp [hz1]
    have HM : Aside0 ((wc.alloc (.cells (madeCells #[.int .u8 0] n) 5)).ownsRow 0 5 1 (.slice (some ⟨wc.heap.size, 0, none⟩) n n) n (nums .u8 (List.replicate n 0)) ∧ ReadsInt (wc.alloc (.cells (madeCells #[.int .u8 0] n) 5)) .u8 A6 e.all.length e.all) :=
      ⟨own_made wc 0 5 .u8 n (Nat.zero_le _) (by omega), (own_reads' hcut.out.1).below (below_alloc (Below.refl _ _) _)⟩
    have hall : e.all.length ≤ 200000000000 := by
      have := HK.out.2.1.n
      simp [E.all]; omega
    go_upto_region 8 with (with_reducible refine copyRow (o := ⟨some 60, _, _, _, _, _⟩) rfl (.tmp 58) (.tmp 59) 26 5 .u8 rfl Try.underlying26 hsz5 wc.heap.size n n (List.replicate n 0) e.all A6 c6 rfl rfl HM.out.1 HM.out.2 ?_; intro w3 ho3 hc3)
    have H3 : Aside0 (w3.ownsRow 0 5 1 (.slice (some ⟨wc.heap.size, 0, none⟩) n n) n (nums .u8 (e.out0 n)) ∧ Chg w w3 No ∧ w.heap.size ≤ wc.heap.size ∧ w3.ownsRow 0 5 1 (.slice A6 e.all.length c6) e.all.length (nums .u8 e.all)) := by
      refine ⟨ho3, Chg.trans (hcut.out.2.1.alloc _) hc3 (fun k hk => .inr (by rw [hk]; exact hcut.out.2.1.size)), hcut.out.2.1.size, hc3.own (own_alloc hcut.out.1 _) (fun k hk hh => ?_)⟩
      have := own_lt hcut.out.1 k hk
      omega
    clear ho3 hc3 HM hmk
    generalize hgo : wc.heap.size = go at *
    clear hcut hgo
    generalize hL : e.all.length = L at *
    have HL := Aside0.mk hL
    clear hL
    obtain ⟨bb, hbb⟩ : ∃ b : Bool, b = (decide (n < L) && anyNZ (e.all.drop n)) := ⟨_, rfl⟩
    have HBB := Aside0.mk hbb
    clear hbb
    go_frame
    go_cut [70] (fun s70 wx => ∃ nd, s70 = .bool bb ∧ wx = w3.drewN nd)
    case first =>
      by_cases hl : n < L
      · obtain ⟨A8, hsl, hrd, hcap⟩ := print_cut_int (P := Try.prog) (k := .u8) 26 5 Try.underlying26 (Classical.choose_spec (Option.map_eq_some_iff.1 hsz5)).1 (Classical.choose_spec (Option.map_eq_some_iff.1 hsz5)).2 A6 c6 e.all n (by omega) (by rw [HL.out]; omega) (by rw [HL.out]; exact own_le H3.out.2.2.2)
        have hd : (e.all.drop n).length = L - n := by rw [List.length_drop, HL.out]
        rw [Int.toNat_natCast, HL.out] at hsl
        rw [Int.toNat_natCast] at hrd
        have hlb : decide (n < L) = true := by simpa using hl
        have hcon := contains_calls w3 A8 (c6 - n) (e.all.drop n) (hrd w3 (by rw [HL.out]; exact own_reads' H3.out.2.2.2)) (by rw [hd]; omega)
        rw [hd] at hcon
        have HR := Aside0.mk hcon
        clear hrd hcap hcon
        rw [hd] at hsl
        go_wp2_with fail
        refine HR.out.mono ?_
        rintro r w4 ⟨rfl, rfl⟩
        go_wp2_with fail
        go_meet
        exact ⟨0, by rw [HBB.out, hlb]; rfl, rfl⟩
      · have hlb : decide (n < L) = false := by simpa using hl
        go_wp2_with fail
        go_meet
        exact ⟨0, by rw [HBB.out, hlb]; rfl, rfl⟩
    case rest =>
      obtain ⟨nd, rfl, rfl⟩ := hcut
      go_upto_if 70 with fail
      go_cut [] (fun wx => Aside0 (wx.ownsRow 0 5 1 (.slice (some ⟨go, 0, none⟩) n n) n (nums .u8 (e.out1 n)) ∧ Chg w wx No ∧ w.heap.size ≤ go))
      case first =>
        cases bb with
        | true =>
          have h1 : e.out1 n = increase (e.out0 n) 0 := by
            rw [E.out1, HL.out, if_pos (by simpa using HBB.out.symm)]
          have h2 : (e.out0 n).length = n := by have := H3.out.1.1; simpa [nums] using this
          have HI := increase_calls (w3.drewN nd) (.slice (some ⟨go, 0, none⟩) n n) (e.out0 n) 0 (by rw [h2]; exact H3.out.1) (e.out0_bytes n HK.out.2.2) (by simp) (by omega)
          rw [h2, ← h1] at HI
          have HI' := Aside0.mk HI
          clear HI h1 h2
          go_wp2_with fail
          refine HI'.out.mono ?_
          rintro r w4 ⟨rfl, ho4, hc4⟩
          have H4 : Aside0 (w4.ownsRow 0 5 1 (.slice (some ⟨go, 0, none⟩) n n) n (nums .u8 (e.out1 n)) ∧ Chg w w4 No ∧ w.heap.size ≤ go) := ⟨ho4, Chg.trans (H3.out.2.1.drewN _) hc4 (Ext.slice H3.out.2.2.1), H3.out.2.2.1⟩
          clear ho4 hc4
          go_wp2_with fail
          go_meet
          exact H4
        | false =>
          have h1 : e.out1 n = e.out0 n := by
            rw [E.out1, HL.out, if_neg (by have := HBB.out.symm; simpa using this)]
          go_wp2_with fail
          go_meet
          exact ⟨by rw [h1]; exact H3.out.1, H3.out.2.1.drewN _, H3.out.2.2.1⟩
      case rest =>
        clear hsz5 HBB HL H3
        obtain ⟨m, hm⟩ := Int.eq_ofNat_of_zero_le HK.out.2.2.b0
        have HM := Aside0.mk hm
        have k4 := (CE.out wc hcut.out.2.1).c4
        rw [hm] at k4
        have hm8 : m ≤ 8 * n := by
          have h1 := HK.out.2.2.cnt
          have h2 := bitLen_le32 e.rng.toNat (by have := HK.out.2.1.r2; omega)
          unfold E.tell at hfit
          omega
        have hml : (e.raw.length : Int) = (m + 7) / 8 := by rw [← hm]; exact HK.out.2.2.len
        clear hm
        have hol : (e.out1 n).length = n := by have := hcut.out.1.1; simpa [nums] using this
        have HOL := Aside0.mk hol
        clear hol
        go_wp2_with (go_at_call 69; refine (clone_calls wc _ (e.out1 n) (Rd.own (e := 5) (by rw [HOL.out]; exact hcut.out.1)) (by rw [HOL.out]; omega)).mono ?_; rintro r w5 ⟨vl, rfl, ho5, hc5, hg5⟩; have k4' := (CE.out w5 (hcut.out.2.1.trans hc5 (Ext.refl _ _))).c4; rw [HM.out] at k4')
        have H5 : Aside0 (w5.ownsRow 0 5 1 vl n (nums .u8 (e.out1 n)) ∧ w5.ownsRow 0 5 1 (.slice (some ⟨go, 0, none⟩) n n) n (nums .u8 (e.out1 n)) ∧ Chg w w5 No ∧ ¬ blkOf vl go ∧ w.heap.size ≤ go) := by
          refine ⟨by have := ho5; rwa [HOL.out] at this, hc5.own hcut.out.1 (fun _ _ h => h), hcut.out.2.1.trans hc5 (Ext.refl _ _), fun hh => ?_, hcut.out.2.2⟩
          have h1 := hg5 go hh
          have h2 := own_lt hcut.out.1 go rfl
          omega
        clear ho5 hc5 hg5 k4 hcut
        go_loopg [9, 10, 11, 79] m (fun k u9 u10 u11 u79 wr => ∃ i : Nat, u79 = .int .i64 i ∧ k + i = m ∧ Aside0 (wr.ownsRow 0 5 1 vl n (nums .u8 (e.out1 n)) ∧ wr.ownsRow 0 5 1 (.slice (some ⟨go, 0, none⟩) n n) n (nums .u8 (layBits e.raw n (e.out1 n) i)) ∧ Chg w wr No))
        case atStart => exact ⟨0, rfl, by omega, ⟨H5.out.1, H5.out.2.1, H5.out.2.2.1⟩⟩
        case round =>
          clear k4'
          obtain ⟨i, rfl, hki, HR⟩ := hrel
          by_cases him : i < m
          · have hEr := CE.out wr HR.out.2.2
            have k3 := hEr.c3
            have k4 := hEr.c4
            rw [HM.out] at k4
            have hor := hEr.orw
            obtain ⟨A9, c9, rfl⟩ := own_slice hor
            obtain ⟨q, hq⟩ : ∃ q : Nat, q = i / 8 := ⟨_, rfl⟩
            obtain ⟨t, ht⟩ : ∃ t : Nat, t = n - 1 - q := ⟨_, rfl⟩
            have hqr : q < e.raw.length := by omega
            have htn : t < n := by omega
            have hqn : q < n := by omega
            have eq : (i : Int) / 8 = (q : Int) := by omega
            have et : (n : Int) - 1 - (q : Int) = (t : Int) := by omega
            have HQ : Aside0 (q = i / 8 ∧ t = n - 1 - i / 8) := ⟨hq, by rw [ht, hq]⟩
            clear hq ht
            obtain ⟨ad9, rfl, hx9⟩ := (own_reads' hor).at_ (q : Int) (by omega) (by omega)
            obtain ⟨ck, fk⟩ := own_at HR.out.2.1 (t : Int) (by omega) (by omega)
            simp only [Int.toNat_natCast] at ck fk hx9
            generalize hrl : e.raw.length = R at *
            have HRL := Aside0.mk hrl
            clear hEr hor hrl
            have hp : (2 : Int) ^ (i % 8) % 256 = 2 ^ (i % 8) := by have := pow_range i; omega
            go_wp2_with fail
            go_region
            go_wp2_with fail
            have eq2 : (i : Int).tdiv 8 = (q : Int) := by rw [Int.tdiv_eq_ediv_of_nonneg (by omega)]; exact eq
            have eq3 : IntKind.i64.wrap (q : Int) = (q : Int) := IntWalk.i64_in _ (by omega)
            have HX : Aside0 ((wr.setCell ⟨go, t, none⟩ (.int .u8 (bits .or .u8 (bits .andNot .u8 (rd (layBits e.raw n (e.out1 n) i) t) (2 ^ (i % 8))) (bits .and .u8 (rd e.raw q) (2 ^ (i % 8)))))).ownsRow 0 5 1 vl n (nums .u8 (e.out1 n)) ∧
                (wr.setCell ⟨go, t, none⟩ (.int .u8 (bits .or .u8 (bits .andNot .u8 (rd (layBits e.raw n (e.out1 n) i) t) (2 ^ (i % 8))) (bits .and .u8 (rd e.raw q) (2 ^ (i % 8)))))).ownsRow 0 5 1 (.slice (some ⟨go, 0, none⟩) n n) n (nums .u8 (layBits e.raw n (e.out1 n) (i + 1))) ∧
                Chg w (wr.setCell ⟨go, t, none⟩ (.int .u8 (bits .or .u8 (bits .andNot .u8 (rd (layBits e.raw n (e.out1 n) i) t) (2 ^ (i % 8))) (bits .and .u8 (rd e.raw q) (2 ^ (i % 8)))))) No) := by
              obtain ⟨h1, h2, h3⟩ := HR.out
              refine ⟨own_setCell (p := ⟨go, t, none⟩) h1 (fun hh => H5.out.2.2.2.1 hh.symm) _, ?_, h3.setCell (p := ⟨go, t, none⟩) (.inr H5.out.2.2.2.2) _⟩
              have := (own_store h2 (t : Int) (bits .or .u8 (bits .andNot .u8 (rd (layBits e.raw n (e.out1 n) i) t) (2 ^ (i % 8))) (bits .and .u8 (rd e.raw q) (2 ^ (i % 8))))).1
              rw [Int.toNat_natCast] at this
              show World.ownsRow _ 0 5 1 _ n (nums .u8 (layBit e.raw n (layBits e.raw n (e.out1 n) i) i))
              unfold layBit
              rw [← HQ.out.1, show n - 1 - q = t by rw [HQ.out.1, HQ.out.2]]
              exact this
            go_region
            all_goals
              go_wp2_with fail
              go_roundg (gk - 1)
              case measure => omega
              case rel => exact ⟨i + 1, by go_num, by omega, ⟨HX.out.1, HX.out.2.1, (HX.out.2.2.drew).drew⟩⟩
          · have hmi : i = m := by omega
            have H6 : Aside0 (wr.ownsRow 0 5 1 vl n (nums .u8 (e.out1 n)) ∧ wr.ownsRow 0 5 1 (.slice (some ⟨go, 0, none⟩) n n) n (nums .u8 (e.out2 n)) ∧ Chg w wr No) := ⟨HR.out.1, by rw [E.out2, HM.out, Int.toNat_natCast, ← hmi]; exact HR.out.2.1, HR.out.2.2⟩
            obtain ⟨Al, cl, rfl⟩ := own_slice H6.out.1
            clear HR hmi
            have k4 := (CE.out wr H6.out.2.2).c4
            rw [HM.out] at k4
            have hl2 : (e.out2 n).length = n := by have := H6.out.2.1.1; simpa [nums] using this
            have hb2 : Bytes (e.out2 n) := e.out2_bytes n HK.out.2.2
            obtain ⟨cc, hcc⟩ : ∃ c : Int, c = cmpL (e.out2 n) (e.out1 n) := ⟨_, rfl⟩
            have HC := Aside0.mk (And.intro hl2 (And.intro hb2 hcc))
            clear hl2 hb2
            by_cases hneg : cc < 0
            · have hdone : e.done n = increase (e.out2 n) m := by rw [E.done, ← hcc, if_pos hneg, HM.out]; rfl
              have HD := Aside0.mk hdone
              clear hdone hcc
              go_wp2_with (first
                | (go_at_call 99; refine (compare_calls wr n _ _ _ _ (e.out2 n) (e.out1 n) H6.out.2.1 H6.out.1 (by omega)).mono ?_; rintro r w6 ⟨rfl, ⟨nd6, rfl⟩⟩; rw [← HC.out.2.2])
                | (go_at_call 98; have HI := Aside0.mk (increase_calls (wr.drewN nd6) (.slice (some ⟨go, 0, none⟩) n n) (e.out2 n) m (by rw [HC.out.1]; exact H6.out.2.1) HC.out.2.1 (by rw [HC.out.1]; omega) (by rw [HC.out.1]; omega)); refine HI.out.mono ?_; rintro r w7 ⟨rfl, ho7, hc7⟩; have H7 := Aside0.mk (And.intro ho7 hc7); clear ho7 hc7))
              go_returns
              obtain ⟨ho7, hc7⟩ := H7.out
              exact ⟨_, rfl, by rw [HD.out]; rw [HC.out.1] at ho7; exact ho7, Chg.trans (H6.out.2.2.drewN _) hc7 (Ext.slice H5.out.2.2.2.2), Ge.slice H5.out.2.2.2.2⟩
            · have hdone : e.done n = e.out2 n := by rw [E.done, ← hcc, if_neg hneg]
              have HD := Aside0.mk hdone
              clear hdone hcc
              go_wp2_with (first
                | (go_at_call 99; refine (compare_calls wr n _ _ _ _ (e.out2 n) (e.out1 n) H6.out.2.1 H6.out.1 (by omega)).mono ?_; rintro r w6 ⟨rfl, ⟨nd6, rfl⟩⟩; rw [← HC.out.2.2]))
              go_returns
              exact ⟨_, rfl, by rw [HD.out]; exact H6.out.2.1, H6.out.2.2.drewN _, Ge.slice H5.out.2.2.2.2⟩
end Go.Proofs.Ytiabenmgbikllaa.M

-- F6
namespace Go.Proofs.Ytiabenmgbikllaa.M
set_option linter.unusedVariables false
open Go.RowKit Go.Proofs.YtiabenmgbikllaaW.PrintWords Go.Proofs.YtiabenmgbikllaaW.PrintLast Go.Proofs.YtiabenmgbikllaaW.PrintMore Go.Proofs.Ytiabenmgbikllaa.PAll
attribute [local go_sem] max2_int min2_int max_two min_two max_three min_three max_four min_four

theorem bitLenAux_spec : ∀ n x, x < 2 ^ n → x < 2 ^ Lib.bitLenAux n x ∧ (x ≠ 0 → 2 ^ Lib.bitLenAux n x ≤ 2 * x)
  | 0, x, h => by
    have : x = 0 := by simpa using h
    subst this
    simp [Lib.bitLenAux]
  | n + 1, x, h => by
    simp only [Lib.bitLenAux]
    by_cases hx : x = 0
    · simp [hx]
    · rw [if_neg hx]
      obtain ⟨i1, i2⟩ := bitLenAux_spec n (x / 2) (by rw [Nat.pow_succ] at h; omega)
      rw [Nat.add_comm 1, Nat.pow_succ]
      refine ⟨by omega, fun _ => ?_⟩
      by_cases h2 : x / 2 = 0
      · rw [h2] at i1 ⊢
        have e : Lib.bitLenAux n 0 = 0 := by cases n <;> simp [Lib.bitLenAux]
        rw [e]
        omega
      · have := i2 h2
        omega
/-- How many of its bits are read as they are, and the bound of the others. -/
def bB (ft : Int) : Nat := Lib.bitLen (ft - 1).toNat - 8
def bF (ft : Int) : Int := (ft - 1) / 2 ^ bB ft + 1
theorem bB_ok (ft : Int) (h0 : 257 ≤ ft) (h1 : ft ≤ 4294967295) : Lib.bitLen (ft - 1).toNat = bB ft + 8 ∧ 1 ≤ bB ft ∧ bB ft ≤ 24 ∧ 2 ≤ bF ft ∧ bF ft ≤ 256 ∧ (ft - 1) / 2 ^ bB ft = bF ft - 1 := by
  obtain ⟨n, hn⟩ := Int.eq_ofNat_of_zero_le (show 0 ≤ ft - 1 by omega)
  obtain ⟨s1, s2⟩ := bitLenAux_spec 64 n (by omega)
  have s2' := s2 (by omega)
  have hL : Lib.bitLen n = Lib.bitLenAux 64 n := rfl
  rw [← hL] at s1 s2'
  have hle : Lib.bitLen n ≤ 32 := bitLenAux_lt 64 n 32 (by omega)
  have hge : 9 ≤ Lib.bitLen n := by
    by_cases h : 9 ≤ Lib.bitLen n
    · exact h
    · have : 2 ^ Lib.bitLen n ≤ 2 ^ 8 := Nat.pow_le_pow_right (by decide) (by omega)
      omega
  have hb : bB ft = Lib.bitLen n - 8 := by unfold bB; rw [hn]; rfl
  have hp : 0 < 2 ^ bB ft := Nat.two_pow_pos _
  have e : 2 ^ Lib.bitLen n = 256 * 2 ^ bB ft := by
    rw [show Lib.bitLen n = 8 + bB ft from by omega, Nat.pow_add]
  rw [e] at s1 s2'
  have hq1 : n / 2 ^ bB ft < 256 := (Nat.div_lt_iff_lt_mul hp).2 s1
  have hq2 : 1 ≤ n / 2 ^ bB ft := (Nat.le_div_iff_mul_le hp).2 (by omega)
  have hF : bF ft = ((n / 2 ^ bB ft : Nat) : Int) + 1 := by unfold bF; rw [hn]; simp
  refine ⟨by rw [hn]; show Lib.bitLen n = _; omega, by omega, by omega, by omega, by omega, ?_⟩
  rw [hF, hn]; simp
def D.bigV0 (d : D) (ft : Int) : Int := d.choose (bF ft) * 2 ^ bB ft + (d.small (bF ft)).bitsV (bB ft)
/-- What is told of a great number, and the reader behind it. -/
def D.bigV (d : D) (ft : Int) : Int := if ft ≤ d.bigV0 ft then ft - 1 else d.bigV0 ft
def D.bigD (d : D) (ft : Int) : D := if ft ≤ d.bigV0 ft then { (d.small (bF ft)).bits (bB ft) with bad := true } else (d.small (bF ft)).bits (bB ft)
def D.uintV (d : D) (ft : Int) : Int := if ft ≤ 256 then d.choose ft else d.bigV ft
def D.uintD (d : D) (ft : Int) : D := if ft ≤ 256 then d.small ft else d.bigD ft
theorem normL_raw : ∀ (j : Nat) (d : D), (D.normL j d).b = d.b ∧ (D.normL j d).back = d.back ∧ (D.normL j d).window = d.window ∧ (D.normL j d).waiting = d.waiting ∧ (D.normL j d).bad = d.bad
  | 0, d => ⟨rfl, rfl, rfl, rfl, rfl⟩
  | j + 1, d => by
    unfold D.normL
    split
    · exact normL_raw j d.step
    · exact ⟨rfl, rfl, rfl, rfl, rfl⟩
theorem take_raw (d : D) (h : DRaw d) (fl fh ft : Int) : DRaw (d.take fl fh ft) := by
  obtain ⟨a1, a2, a3, a4, _⟩ := normL_raw 3 (d.take0 fl fh ft)
  obtain ⟨h1, h2, h3, h4, h5, h6⟩ := h
  have e1 : (d.take fl fh ft).b = d.b := a1
  have e2 : (d.take fl fh ft).back = d.back := a2
  have e3 : (d.take fl fh ft).window = d.window := a3
  have e4 : (d.take fl fh ft).waiting = d.waiting := a4
  exact ⟨by rw [e4]; exact h1, by rw [e4]; exact h2, by rw [e3]; exact h3, by rw [e3, e4]; exact h4, by rw [e2]; exact h5, by rw [e1, e2]; exact h6⟩
theorem new_raw (b : List Int) : DRaw (D.new b) := by
  obtain ⟨a1, a2, a3, a4, _⟩ := normL_raw 3 (D.first b)
  have e1 : (D.new b).b = b := a1
  have e2 : (D.new b).back = 0 := a2
  have e3 : (D.new b).window = 0 := a3
  have e4 : (D.new b).waiting = 0 := a4
  exact ⟨by rw [e4]; omega, by rw [e4]; omega, by rw [e3]; omega, by rw [e3, e4]; decide, by rw [e2]; omega, by rw [e1, e2]; omega⟩
theorem sym_raw (d : D) (h : DRaw d) (t : List Int) : DRaw (d.sym t) := take_raw d h _ _ _
theorem small_raw (d : D) (h : DRaw d) (ft : Int) : DRaw (d.small ft) := take_raw d h _ _ _
theorem bigV0_ok (d : D) (h : DOk d) (hr : DRaw d) (ft : Int) (h0 : 257 ≤ ft) (h1 : ft ≤ 4294967295) (hc : d.count ≤ 800000000000000000) :
    0 ≤ d.choose (bF ft) ∧ d.choose (bF ft) < 256 ∧ 0 ≤ (d.small (bF ft)).bitsV (bB ft) ∧ (d.small (bF ft)).bitsV (bB ft) < 2 ^ bB ft ∧ (2 : Int) ^ bB ft ≤ 16777216 ∧ (1 : Int) ≤ 2 ^ bB ft ∧ 0 ≤ d.choose (bF ft) * 2 ^ bB ft ∧ d.choose (bF ft) * 2 ^ bB ft ≤ 255 * 16777216 ∧ DOk ((d.small (bF ft)).bits (bB ft)) ∧ DRaw ((d.small (bF ft)).bits (bB ft)) ∧ ((d.small (bF ft)).bits (bB ft)).count ≤ d.count + 48 ∧ ((d.small (bF ft)).bits (bB ft)).b = d.b := by
  obtain ⟨_, b1, b2, f1, f2, _⟩ := bB_ok ft h0 h1
  obtain ⟨a1, a2, a3, a4, a5⟩ := small_ok d h (bF ft) (by omega) (by omega) (by omega)
  obtain ⟨c1, c2, c3, c4, c5, c6⟩ := bits_ok _ a1 (small_raw d hr (bF ft)) (bB ft : Int) (by omega) (by omega) (by omega)
  have hp : (1 : Int) ≤ 2 ^ bB ft := by exact_mod_cast Nat.one_le_two_pow
  have hp2 : (2 : Int) ^ bB ft ≤ 16777216 := by
    have : (2 : Int) ^ bB ft ≤ 2 ^ 24 := by exact_mod_cast Nat.pow_le_pow_right (by decide) b2
    omega
  refine ⟨a4, by omega, c5, by simpa using c6, hp2, hp, Int.mul_nonneg a4 (by omega), ?_, c1, c2, by omega, c4.trans a3⟩
  exact Int.le_trans (Int.mul_le_mul_of_nonneg_right (show d.choose (bF ft) ≤ 255 by omega) (by omega)) (Int.mul_le_mul_of_nonneg_left hp2 (by omega))
end Go.Proofs.Ytiabenmgbikllaa.M

-- F7
namespace Go.Proofs.Ytiabenmgbikllaa.M
set_option linter.unusedVariables false
open Go.RowKit Go.Proofs.YtiabenmgbikllaaW.PrintWords Go.Proofs.YtiabenmgbikllaaW.PrintLast Go.Proofs.YtiabenmgbikllaaW.PrintMore Go.Proofs.Ytiabenmgbikllaa.PAll
attribute [local go_sem] max2_int min2_int max_two min_two max_three min_three max_four min_four

set_option maxHeartbeats 2000000 in
set_option maxRecDepth 100000 in
theorem dbig_calls (w0 w : World) (g : Nat) (d : D) (ft : Int) (h : DecAt w0 w g d) (hd : DOk d) (hr : DRaw d) (f0 : 257 ≤ ft) (f1 : ft ≤ 4294967295) (hk : d.count ≤ 800000000000000000) :
    Calls Try.prog 81 #[.pointer (some ⟨g, 0, none⟩), .int .i64 ft] w fun r w' => r = .returned (.int .i64 (d.bigV ft)) ∧ DecAt w0 w' g (d.bigD ft) ∧ Chg w w' (One g) := by
  obtain ⟨n1, n2, n3, n4, n5, n6⟩ := bB_ok ft f0 f1
  obtain ⟨v1, v2, v3, v4, v5, v6, v7, v8, v9, v10, v11, v12⟩ := bigV0_ok d hd hr ft f0 f1 hk
  have hp := small_place d hd (bF ft) (by omega) (by omega)
  have hs := small_ok d hd (bF ft) (by omega) (by omega) (by omega)
  have HH := Aside0.mk (And.intro h (And.intro hd (And.intro hr (And.intro hp (And.intro hs (small_raw d hr (bF ft)))))))
  have hc1 : (d.small (bF ft)).count ≤ 900000000000000000 := by have := hs.2.1; omega
  clear h hd hr hp hs v9 v10 v11 v12
  have b1 : decide (ft ≤ 1) = false := decide_eq_false (by omega)
  have b2 : decide (4294967295 < ft) = false := decide_eq_false (by omega)
  have b3 : decide (ft ≤ 256) = false := decide_eq_false (by omega)
  have u1 : IntKind.u64.wrap (ft - 1) = ft - 1 := wraps_u64 _ (by omega) (by omega)
  have u2 : IntKind.u64.wrap (bF ft) = bF ft := wraps_u64 _ (by omega) (by omega)
  have u3 : IntKind.u64.wrap (d.choose (bF ft) + 1) = d.choose (bF ft) + 1 := wraps_u64 _ (by omega) (by omega)
  obtain ⟨L, hL⟩ : ∃ L, L = Lib.bitLen (ft - 1).toNat := ⟨_, rfl⟩
  rw [← hL] at n1
  go_enter Try.func81, Try.ntmps81
  go_wp2_with fail

  first
    | go_quiet ((go_at_call 124; exact Calls.quiet_of_same (Try.bits_Len (ft - 1) _ (by omega) (by omega))))
    | (refine (Try.bits_Len (ft - 1) _ (by omega) (by omega)).mono ?_; rintro r w1 ⟨rfl, rfl⟩)
  rw [← hL, n1]
  go_wp2_with fail
  refine (dchoose_calls w0 w1 g d (bF ft) HH.out.1 HH.out.2.1 (by omega) (by omega)).mono ?_
  rintro r w2 ⟨rfl, h2, k2⟩
  have H2 := Aside0.mk (And.intro h2 k2)
  clear h2 k2
  have s1 : IntKind.i64.wrap (d.choose (bF ft) * 2 ^ bB ft) = d.choose (bF ft) * 2 ^ bB ft := by rw [IntKind.wrap_i64]; omega
  have s2 : IntKind.i64.wrap (d.choose (bF ft)) = d.choose (bF ft) := by rw [IntKind.wrap_i64]; omega
  go_wp2_with fail
  refine (dtake_calls w0 w2 g d (d.choose (bF ft)) (d.choose (bF ft) + 1) (bF ft) H2.out.1 HH.out.2.1 HH.out.2.2.2.1 (by omega)).mono ?_
  rintro r w3 ⟨rfl, h3, k3⟩
  have H3 : Aside0 (DecAt w0 w3 g (d.small (bF ft)) ∧ Chg w1 w3 (One g)) := ⟨h3, H2.out.2.trans k3 (Ext.refl _ _)⟩
  clear H2 h3 k3
  go_wp2_with fail
  obtain ⟨V, hV⟩ : ∃ V, V = (d.small (bF ft)).bitsV (bB ft) := ⟨_, rfl⟩
  obtain ⟨X, hX⟩ : ∃ X, X = d.choose (bF ft) * 2 ^ bB ft := ⟨_, rfl⟩
  have h0 : Aside0 (d.bigV0 ft = X + V) := ⟨by unfold D.bigV0; rw [hX, hV]⟩
  have HV := Aside0.mk hV
  rw [← hV] at v3 v4
  rw [← hX] at v7 v8 s1
  have hX' := hX.symm
  have HX := Aside0.mk hX
  clear hV hX
  by_cases hlt : ft ≤ X + V
  · have b4 : decide (ft ≤ X + V) = true := decide_eq_true hlt
    have e1 : Aside0 (d.bigV ft = ft - 1 ∧ d.bigD ft = { (d.small (bF ft)).bits (bB ft) with bad := true }) := ⟨by unfold D.bigV D.bigD; rw [h0.out, if_pos hlt, if_pos hlt]; exact ⟨rfl, rfl⟩⟩
    go_region_with (
      (go_at_call 89
       refine (dbits_calls w0 _ g (d.small (bF ft)) (bB ft : Int) (H3.out.1.chg (S := No) (by repeat (first | exact Chg.refl _ No | apply Chg.drew | apply Chg.drewN)) (fun h => h) (fun _ h => False.elim h)) HH.out.2.2.2.2.1.1 HH.out.2.2.2.2.2 (by omega) (by omega) (by omega)).mono ?_
       rintro r w4 ⟨rfl, h4, k4⟩
       rw [← HV.out]
       have H4 : Aside0 (DecAt w0 w4 g ((d.small (bF ft)).bits (bB ft)) ∧ Chg w1 w4 (One g)) := ⟨h4, H3.out.2.drew.trans k4 (Ext.refl _ _)⟩
       clear h4 k4))
    obtain ⟨⟨A, c, hb, hge, hrd⟩, hB⟩ := H4.out.1
    have c9 := cellS91_9 hb
    have z9 := blk_frozen hb 9
    clear hb hrd hB
    go_wp2_with fail
    go_returns
    refine ⟨by rw [e1.out.1]; rfl, ?_, H4.out.2.setCell (p := ⟨g, 9, none⟩) (.inl rfl) _⟩
    rw [e1.out.2]
    exact ⟨H4.out.1.1.set_9 true, H4.out.1.2.setCell (p := ⟨g, 9, none⟩) hge _⟩
  · have b4 : decide (ft ≤ X + V) = false := decide_eq_false hlt
    have e1 : Aside0 (d.bigV ft = X + V ∧ d.bigD ft = (d.small (bF ft)).bits (bB ft)) := ⟨by unfold D.bigV D.bigD; rw [h0.out, if_neg hlt, if_neg hlt]; exact ⟨rfl, rfl⟩⟩
    go_region_with (
      (go_at_call 89
       refine (dbits_calls w0 _ g (d.small (bF ft)) (bB ft : Int) (H3.out.1.chg (S := No) (by repeat (first | exact Chg.refl _ No | apply Chg.drew | apply Chg.drewN)) (fun h => h) (fun _ h => False.elim h)) HH.out.2.2.2.2.1.1 HH.out.2.2.2.2.2 (by omega) (by omega) (by omega)).mono ?_
       rintro r w4 ⟨rfl, h4, k4⟩
       rw [← HV.out]
       have H4 : Aside0 (DecAt w0 w4 g ((d.small (bF ft)).bits (bB ft)) ∧ Chg w1 w4 (One g)) := ⟨h4, H3.out.2.drew.trans k4 (Ext.refl _ _)⟩
       clear h4 k4))
    go_wp2_with fail
    go_returns
    refine ⟨by rw [e1.out.1]; rfl, ?_, H4.out.2⟩
    rw [e1.out.2]
    exact H4.out.1
end Go.Proofs.Ytiabenmgbikllaa.M

-- F9
namespace Go.Proofs.Ytiabenmgbikllaa.M
set_option linter.unusedVariables false
open Go.RowKit Go.Proofs.YtiabenmgbikllaaW.PrintWords Go.Proofs.YtiabenmgbikllaaW.PrintLast Go.Proofs.YtiabenmgbikllaaW.PrintMore Go.Proofs.Ytiabenmgbikllaa.PAll
attribute [local go_sem] max2_int min2_int max_two min_two max_three min_three max_four min_four

theorem uint_ok (d : D) (h : DOk d) (hr : DRaw d) (ft : Int) (f0 : 2 ≤ ft) (f1 : ft ≤ 4294967295) (hk : d.count ≤ 800000000000000000) : DOk (d.uintD ft) ∧ (d.uintD ft).count ≤ d.count + 48 ∧ (d.uintD ft).b = d.b ∧ 0 ≤ d.uintV ft ∧ d.uintV ft < ft ∧ DRaw (d.uintD ft) := by
  by_cases hs : ft ≤ 256
  · obtain ⟨a1, a2, a3, a4, a5⟩ := small_ok d h ft (by omega) (by omega) (by omega)
    have e1 : d.uintV ft = d.choose ft := if_pos hs
    have e2 : d.uintD ft = d.small ft := if_pos hs
    rw [e1, e2]
    exact ⟨a1, by omega, a3, a4, a5, small_raw d hr ft⟩
  · obtain ⟨v1, v2, v3, v4, v5, v6, v7, v8, v9, v10, v11, v12⟩ := bigV0_ok d h hr ft (by omega) f1 hk
    have e1 : d.uintV ft = d.bigV ft := if_neg hs
    have e2 : d.uintD ft = d.bigD ft := if_neg hs
    have e0 : d.bigV0 ft = d.choose (bF ft) * 2 ^ bB ft + (d.small (bF ft)).bitsV (bB ft) := rfl
    rw [e1, e2]
    unfold D.bigV D.bigD
    split
    · obtain ⟨⟨q1, q2, q3, q4, q5, q6, q7, q8⟩, p1, p2, p3, p4, p5, p6⟩ := v9
      obtain ⟨o1, o2, o3, o4, o5, o6⟩ := v10
      exact ⟨⟨⟨q1, q2, q3, q4, q5, q6, q7, q8⟩, p1, p2, p3, p4, p5, p6⟩, v11, v12, by omega, by omega, ⟨o1, o2, o3, o4, o5, o6⟩⟩
    · exact ⟨v9, v11, v12, by omega, by omega, v10⟩
theorem duint_calls (w0 w : World) (g : Nat) (d : D) (ft : Int) (h : DecAt w0 w g d) (hd : DOk d) (hr : DRaw d) (f0 : 2 ≤ ft) (f1 : ft ≤ 4294967295) (hk : d.count ≤ 800000000000000000) :
    Calls Try.prog 81 #[.pointer (some ⟨g, 0, none⟩), .int .i64 ft] w fun r w' => r = .returned (.int .i64 (d.uintV ft)) ∧ DecAt w0 w' g (d.uintD ft) ∧ Chg w w' (One g) := by
  by_cases hs : ft ≤ 256
  · have e1 : d.uintV ft = d.choose ft := if_pos hs
    have e2 : d.uintD ft = d.small ft := if_pos hs
    rw [e1, e2]
    exact dsmall_calls w0 w g d ft h hd f0 hs (by omega)
  · have e1 : d.uintV ft = d.bigV ft := if_neg hs
    have e2 : d.uintD ft = d.bigD ft := if_neg hs
    rw [e1, e2]
    exact dbig_calls w0 w g d ft h hd hr (by omega) f1 hk
end Go.Proofs.Ytiabenmgbikllaa.M
