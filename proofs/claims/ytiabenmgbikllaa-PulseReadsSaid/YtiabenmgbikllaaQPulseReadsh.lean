/- Contracts of the program's functions and plain laws for the law PulseReads, several texts in one (part 8); the program's functions as Lean functions came out of the kit's print. Conditions: each theorem's own. -/
import Derived.Test.YtiabenmgbikllaaQPulseReadsg
-- F1
namespace Go.Proofs.Ytiabenmgbikllaa.M
set_option linter.unusedVariables false
open Go.RowKit Go.Proofs.YtiabenmgbikllaaW.PrintWords Go.Proofs.YtiabenmgbikllaaW.PrintLast Go.Proofs.YtiabenmgbikllaaW.PrintMore Go.Proofs.Ytiabenmgbikllaa.PAll
attribute [local go_sem] max2_int min2_int max_two min_two max_three min_three max_four min_four

/-- The document's reader lies in block g, with e as its last share. -/
def RefE (w0 w : World) (g : Nat) (d : D) (e : Int) : Prop := IsS95 w0 w g d.b d.rng d.val d.last d.front d.back d.window d.waiting d.count d.bad e ∧ Below w0.heap.size w0 w
def RefAt (w0 w : World) (g : Nat) (d : D) : Prop := ∃ e, RefE w0 w g d e
theorem RefAt.ge {w0 w : World} {g : Nat} {d : D} (h : RefAt w0 w g d) : w0.heap.size ≤ g := h.elim fun _ h => h.1.ge
theorem RefAt.lt {w0 w : World} {g : Nat} {d : D} (h : RefAt w0 w g d) : g < w.heap.size := h.elim fun _ h => h.1.lt
theorem RefE.chg {w0 w w1 : World} {g : Nat} {d : D} {e : Int} {S : Nat → Prop} (h : RefE w0 w g d e) (k : Chg w w1 S) (hg : ¬ S g) (hS : Ge w0.heap.size S) : RefE w0 w1 g d e := by
  obtain ⟨⟨A, c, hb, hge, hr⟩, hB⟩ := h
  exact ⟨⟨A, c, k.blk hb hg, hge, hr⟩, hB.trans (k.below hS hB.size)⟩
theorem RefAt.chg {w0 w w1 : World} {g : Nat} {d : D} {S : Nat → Prop} (h : RefAt w0 w g d) (k : Chg w w1 S) (hg : ¬ S g) (hS : Ge w0.heap.size S) : RefAt w0 w1 g d := by
  obtain ⟨e, h⟩ := h
  exact ⟨e, h.chg k hg hS⟩
/-- What a printed contract of the reader gives. -/
theorem RefE.of {w0 w w1 : World} {g : Nat} {d : D} {e : Int} (h : RefE w0 w g d e) (d' : D) (e' : Int) (hb : d'.b = d.b) (hi : IsS95 w0 w1 g d.b d'.rng d'.val d'.last d'.front d'.back d'.window d'.waiting d'.count d'.bad e') (hB : Below w0.heap.size w0 w1) (hk : KeepBut w w1 g none) :
    RefE w0 w1 g d' e' ∧ Chg w w1 (One g) := ⟨⟨by rw [hb]; exact hi, hB⟩, Chg.of_keep h.2 hB hk⟩

theorem rsym_calls (w0 w : World) (g : Nat) (d : D) (t : List Int) (A : Option Addr) (c : Nat) (h : RefAt w0 w g d) (hd : DOk d) (ht : TabOk t) (hgd : madrigalref1_Good.f 300 t = some true) (hn : 0 < t.length) (hr : ReadsInt w .i64 A t.length t) (hc : t.length ≤ c)
    (hf : ∀ ad, A = some ad → ad.block ≠ g) (hk : d.count ≤ 900000000000000000) :
    Calls Try.prog 23 #[.pointer (some ⟨g, 0, none⟩), .slice A t.length c] w fun r w' => r = .returned (.int .i64 (d.symV t)) ∧ RefAt w0 w' g (d.sym t) ∧ Chg w w' (One g) := by
  obtain ⟨e, h⟩ := h
  exact (madrigalref3_Dec_Symbol.calls 300 g d.b d.rng d.val d.last d.front d.back d.window d.waiting d.count d.bad e A c t _ _ _ _ _ _ _ _ _ _ _ w0 w h.1 h.2 (Kd.C_of_reads (d := 0) (readsInt_of.1 hr)) hc (fun ad ha _ => hf ad ha) (sym3_f d hd e t ht hgd hn hk)).mono
    fun r w' ⟨h1, h2, h3, h4⟩ => ⟨h1, ⟨_, (h.of (d.sym t) _ (sym_ok d hd t ht hn hk).2.2.1 h2 h3 h4).1⟩, (h.of (d.sym t) _ (sym_ok d hd t ht hn hk).2.2.1 h2 h3 h4).2⟩
theorem rchoose_calls (w0 w : World) (g : Nat) (d : D) (ft : Int) (h : RefAt w0 w g d) (hd : DOk d) (f0 : 1 ≤ ft) (f1 : ft ≤ 32768) :
    Calls Try.prog 75 #[.pointer (some ⟨g, 0, none⟩), .int .u64 ft] w fun r w' => r = .returned (.int .u64 (d.choose ft)) ∧ RefE w0 w' g d (d.rng / ft) ∧ Chg w w' (One g) := by
  obtain ⟨e, h⟩ := h
  exact (madrigalref3_Dec_choose.calls g d.b d.rng d.val d.last d.front d.back d.window d.waiting d.count d.bad e ft _ _ _ _ _ _ _ _ _ _ _ w0 w h.1 h.2 (choose3_f d hd e ft f0 f1)).mono
    fun r w' ⟨h1, h2, h3, h4⟩ => ⟨h1, (h.of d _ rfl h2 h3 h4).1, (h.of d _ rfl h2 h3 h4).2⟩
theorem rtake_calls (w0 w : World) (g : Nat) (d : D) (fl fh ft : Int) (h : RefE w0 w g d (d.rng / ft)) (hd : DOk d) (hp : InPlace d fl fh ft) (hk : d.count ≤ 900000000000000000) :
    Calls Try.prog 76 #[.pointer (some ⟨g, 0, none⟩), .int .u64 fl, .int .u64 fh, .int .u64 ft] w fun r w' => r = .returned (.tuple #[]) ∧ RefAt w0 w' g (d.take fl fh ft) ∧ Chg w w' (One g) :=
  (madrigalref3_Dec_take.calls 4 g d.b d.rng d.val d.last d.front d.back d.window d.waiting d.count d.bad _ fl fh ft _ _ _ _ _ _ _ _ _ _ w0 w h.1 h.2 (take3_f d hd fl fh ft hp hk 4 (by omega))).mono
    fun r w' ⟨h1, h2, h3, h4⟩ => ⟨h1, ⟨_, (h.of (d.take fl fh ft) _ (take_ok d hd fl fh ft hp hk).2.2 h2 h3 h4).1⟩, (h.of (d.take fl fh ft) _ (take_ok d hd fl fh ft hp hk).2.2 h2 h3 h4).2⟩

set_option maxHeartbeats 1000000 in
set_option maxRecDepth 100000 in
theorem rsmall_calls (w0 w : World) (g : Nat) (d : D) (ft : Int) (h : RefAt w0 w g d) (hd : DOk d) (f0 : 2 ≤ ft) (f1 : ft ≤ 256) (hk : d.count ≤ 900000000000000000) :
    Calls Try.prog 25 #[.pointer (some ⟨g, 0, none⟩), .int .i64 ft] w fun r w' => r = .returned (.int .i64 (d.choose ft)) ∧ RefAt w0 w' g (d.small ft) ∧ Chg w w' (One g) := by
  have hp := small_place d hd ft (by omega) (by omega)
  have HH := Aside0.mk (And.intro h (And.intro hd hp))
  have w1 : IntKind.u64.wrap ft = ft := wraps_u64 _ (by omega) (by omega)
  obtain ⟨c0, c1, c2, _, _, _⟩ := hp
  have w2 : IntKind.u64.wrap (d.choose ft + 1) = d.choose ft + 1 := wraps_u64 _ (by omega) (by omega)
  clear h hd
  have b1 : decide (ft < 1) = false := decide_eq_false (by omega)
  have b2 : decide (4294967295 < ft) = false := decide_eq_false (by omega)
  have b3 : (ft == 1) = false := by simp; omega
  go_enter Try.func25, Try.ntmps25
  go_wp2_with (first
    | (go_at_call 75; refine (rchoose_calls w0 w g d ft HH.out.1 HH.out.2.1 (by omega) (by omega)).mono ?_; rintro r w1 ⟨rfl, h1, k1⟩; have H1 := Aside0.mk (And.intro h1 k1); clear h1 k1)
    | (go_at_call 76; refine (rtake_calls w0 _ g d (d.choose ft) (d.choose ft + 1) ft H1.out.1 HH.out.2.1 HH.out.2.2 hk).mono ?_; rintro r w2 ⟨rfl, h2, k2⟩; have H2 := Aside0.mk (And.intro h2 k2); clear h2 k2))
  go_returns
  exact ⟨rfl, H2.out.1, H1.out.2.trans H2.out.2 (Ext.refl _ _)⟩
theorem len_l : ∀ (n : Nat) (x : Nat) (c : Int) (k : Nat), x < 2 ^ 63 → x < 2 ^ n → n < k → 0 ≤ c → c + n ≤ 1000 → madrigalref1_Len.l0 k x c = some (c + (Lib.bitLenAux n x : Int))
  | 0, x, c, k, h0, hx, hk, _, _ => by
    obtain ⟨k, rfl⟩ : ∃ m, k = m + 1 := ⟨k - 1, by omega⟩
    have : x = 0 := by simpa using hx
    subst this
    simp [madrigalref1_Len.l0, Lib.bitLenAux]
  | n + 1, x, c, k, h0, hx, hk, c0, c1 => by
    obtain ⟨k, rfl⟩ : ∃ m, k = m + 1 := ⟨k - 1, by omega⟩
    by_cases hz : x = 0
    · subst hz
      simp [madrigalref1_Len.l0, Lib.bitLenAux]
    · have hx2 : x / 2 < 2 ^ n := by rw [Nat.pow_succ] at hx; omega
      have ih := len_l n (x / 2) (c + 1) k (by omega) hx2 (by omega) (by omega) (by omega)
      simp only [madrigalref1_Len.l0, Lib.bitLenAux]
      rw [if_pos (by omega), if_neg hz, Int.tdiv_eq_ediv_of_nonneg (by omega), show wrap64 ((x : Int) / 2) = ((x / 2 : Nat) : Int) from by unfold wrap64; omega, show wrap64 (c + 1) = c + 1 from by unfold wrap64; omega, ih]
      congr 1
      omega
theorem len_f (x : Int) (h0 : 0 ≤ x) (h1 : x < 2 ^ 63) : madrigalref1_Len.f 70 x = some (Lib.bitLen x.toNat : Int) := by
  obtain ⟨n, rfl⟩ := Int.eq_ofNat_of_zero_le h0
  have := len_l 64 n 0 70 (by omega) (by omega) (by omega) (by omega) (by omega)
  unfold madrigalref1_Len.f
  rw [this]
  simp [Lib.bitLen]
theorem rtell_calls (w0 w : World) (g : Nat) (d : D) (h : RefAt w0 w g d) (hd : DOk d) :
    Calls Try.prog 33 #[.pointer (some ⟨g, 0, none⟩)] w fun r w' => r = .returned (.int .i64 d.tell) ∧ RefAt w0 w' g d ∧ Chg w w' (One g) := by
  obtain ⟨e, h⟩ := h
  have r1 := hd.r1
  have r2 := hd.r2
  have c0 := hd.k0
  have c1 := hd.k1
  have hl := len_f d.rng (by omega) (by omega)
  have hle := bitLen_le d.rng.toNat
  have hf : madrigalref3_Dec_Tell.f 70 d.b d.rng d.val d.last d.front d.back d.window d.waiting d.count d.bad e = some (d.told3 d.tell e) := by
    unfold madrigalref3_Dec_Tell.f
    rw [show wrap64 d.rng = d.rng from by unfold wrap64; omega, hl]
    simp only [Option.bind_some]
    rw [show wrap64 (d.count - (Lib.bitLen d.rng.toNat : Int)) = d.count - (Lib.bitLen d.rng.toNat : Int) from by unfold wrap64; omega]
    rfl
  exact (madrigalref3_Dec_Tell.calls 70 g d.b d.rng d.val d.last d.front d.back d.window d.waiting d.count d.bad e _ _ _ _ _ _ _ _ _ _ _ w0 w h.1 h.2 hf).mono
    fun r w' ⟨h1, h2, h3, h4⟩ => ⟨h1, ⟨_, (h.of d _ rfl h2 h3 h4).1⟩, (h.of d _ rfl h2 h3 h4).2⟩
end Go.Proofs.Ytiabenmgbikllaa.M

-- G0
namespace Go.Proofs.Ytiabenmgbikllaa.M
set_option linter.unusedVariables false
open Go.RowKit Go.Proofs.YtiabenmgbikllaaW.PrintWords Go.Proofs.YtiabenmgbikllaaW.PrintLast Go.Proofs.YtiabenmgbikllaaW.PrintMore Go.Proofs.Ytiabenmgbikllaa.PAll
attribute [local go_sem] max2_int min2_int max_two min_two max_three min_three max_four min_four

def clampI (a lo hi : Int) : Int := if lo > hi then lo else if a < lo then lo else if a > hi then hi else a
theorem clamp_f (a lo hi : Int) : fix_Clamp.f 1 a lo hi = some (clampI a lo hi) := by
  unfold fix_Clamp.f clampI
  by_cases h1 : lo > hi
  · rw [if_pos h1, if_pos h1]; simp [fix_Clamp.j0]
  · rw [if_neg h1, if_neg h1]
    by_cases h2 : a < lo
    · rw [if_pos h2]; simp [fix_Clamp.j0, h2]
    · rw [if_neg h2]; simp only [fix_Clamp.j0, h2, decide_false]
      by_cases h3 : a > hi
      · rw [if_pos h3]; simp [h3]
      · rw [if_neg h3]; simp [h3]
theorem clampI_range (a lo hi : Int) (h : lo ≤ hi) : lo ≤ clampI a lo hi ∧ clampI a lo hi ≤ hi := by
  unfold clampI
  rw [if_neg (by omega)]
  split
  · omega
  · split <;> omega
theorem clampI_id (a lo hi : Int) (h0 : lo ≤ a) (h1 : a ≤ hi) : clampI a lo hi = a := by
  unfold clampI
  rw [if_neg (by omega), if_neg (by omega), if_neg (by omega)]
theorem clamp_calls (w : World) (a lo hi : Int) : Calls Try.prog 65 #[.int .i64 a, .int .i64 lo, .int .i64 hi] w fun r w' => r = .returned (.int .i64 (clampI a lo hi)) ∧ ∃ n, w' = w.drewN n :=
  (fix_Clamp.calls 1 a lo hi _ w (clamp_f a lo hi)).mono fun r w' ⟨h1, h2⟩ => ⟨h1, h2.out⟩

end Go.Proofs.Ytiabenmgbikllaa.M

-- G2
namespace Go.Proofs.Ytiabenmgbikllaa.M
set_option linter.unusedVariables false
open Go.RowKit Go.Proofs.YtiabenmgbikllaaW.PrintWords Go.Proofs.YtiabenmgbikllaaW.PrintLast Go.Proofs.YtiabenmgbikllaaW.PrintMore Go.Proofs.Ytiabenmgbikllaa.PAll
attribute [local go_sem] max2_int min2_int max_two min_two max_three min_three max_four min_four

/-- A table, looked over by program. -/
def tabB (t : List Int) : Bool :=
  decide (t.length ≤ 256) && (List.range t.length).all (fun i => decide (0 ≤ t.getD i 0) && decide (t.getD i 0 ≤ 255)) && (List.range (t.length - 1)).all (fun i => decide (t.getD (i + 1) 0 < t.getD i 0)) && decide (t.getD (t.length - 1) 0 = 0)
theorem tabOk_of (t : List Int) (hg : tabs_Good.f 300 t = some true) (h : tabB t = true) : TabOk t := by
  unfold tabB at h
  simp only [Bool.and_eq_true, List.all_eq_true, List.mem_range, decide_eq_true_eq] at h
  obtain ⟨⟨⟨h1, h2⟩, h3⟩, h4⟩ := h
  exact ⟨hg, h1, fun i hi => h2 i hi, fun i hi => h3 i (by omega), h4⟩
def icdf : Nat → List Int
  | 0 => [192, 96, 0]
  | 1 => [224, 192, 160, 128, 96, 64, 32, 0]
  | 2 => [252, 247, 240, 230, 214, 190, 150, 106, 66, 42, 26, 16, 10, 6, 4, 2, 0]
  | 3 => [240, 224, 208, 192, 176, 160, 144, 128, 112, 96, 80, 64, 48, 32, 16, 0]
  | 4 => [253, 244, 222, 170, 86, 34, 12, 3, 0]
  | 5 => [218, 180, 148, 122, 100, 82, 67, 54, 43, 34, 26, 19, 14, 10, 6, 3, 0]
  | _ => [205, 163, 128, 97, 70, 44, 20, 0]
theorem icdf_ok : ∀ i : Nat, i < 7 → TabOk (icdf i)
  | 0, _ => tabOk_of _ (by decide +kernel) (by decide +kernel)
  | 1, _ => tabOk_of _ (by decide +kernel) (by decide +kernel)
  | 2, _ => tabOk_of _ (by decide +kernel) (by decide +kernel)
  | 3, _ => tabOk_of _ (by decide +kernel) (by decide +kernel)
  | 4, _ => tabOk_of _ (by decide +kernel) (by decide +kernel)
  | 5, _ => tabOk_of _ (by decide +kernel) (by decide +kernel)
  | 6, _ => tabOk_of _ (by decide +kernel) (by decide +kernel)
  | n + 7, h => absurd h (by omega)
theorem icdf_f : ∀ i : Nat, i < 7 → tabs_Icdf.f i = some (icdf i)
  | 0, _ => rfl
  | 1, _ => rfl
  | 2, _ => rfl
  | 3, _ => rfl
  | 4, _ => rfl
  | 5, _ => rfl
  | 6, _ => rfl
  | n + 7, h => absurd h (by omega)
theorem icdf_pos (i : Nat) : 0 < (icdf i).length := by
  unfold icdf
  split <;> decide
/-- A table as a call hands it back: a slice in new memory. -/
def TabAt (w w' : World) (t : List Int) (v : Value) : Prop := ∃ A c, v = .slice A t.length c ∧ ReadsInt w' .i64 A t.length t ∧ t.length ≤ c ∧ (∀ ad, A = some ad → w.heap.size ≤ ad.block) ∧ Chg w w' No
theorem icdf_calls (w : World) (i : Nat) (hi : i < 7) : Calls Try.prog 88 #[.int .i64 i] w fun r w' => ∃ v, r = .returned v ∧ TabAt w w' (icdf i) v :=
  (tabs_Icdf.calls i _ w (icdf_f i hi)).mono fun r w' ⟨v, h1, h2, h3⟩ => by
    have ho := Kd.own_of_R h2
    obtain ⟨A, c, rfl⟩ := own_slice ho
    refine ⟨_, h1, A, c, rfl, readsInt_of.2 (own_reads_of' ho), own_le ho, fun ad ha => ?_, Chg.of_below h3 No⟩
    subst ha
    exact own_base ho ad.block rfl

/-- A symbol is written by a table that was made on the spot. -/
theorem esym_at (w w1 : World) (f : Nat → Prop) (g : Nat) (e : E) (i : Nat) (s : Int) (v : Value) (h : EncAt w f g e) (hk : EOk e) (hi : i < 7) (ht : TabAt w w1 (icdf i) v) (h0 : 0 ≤ s) (h1 : s < (icdf i).length) :
    Calls Try.prog 91 #[.pointer (some ⟨g, 0, none⟩), .int .i64 s, v] w1 fun r w' => r = .returned (.int .i64 0) ∧ ∃ f', EncAt w' f' g (e.symbol s (icdf i)) ∧ Chg w w' f ∧ Ext w f f' := by
  obtain ⟨A, c, rfl, hr, hc, _, hch⟩ := ht
  exact (esymbol_calls w1 f g e s (icdf i) A c (h.chg hch (fun _ _ hh => hh)) hk (icdf_ok i hi) hr hc h0 h1).mono
    fun r w' ⟨hr, f', hE, hC, hX⟩ => ⟨hr, f', hE, (hch.mono (fun _ hh => hh.elim)).trans hC (Ext.refl _ _), hX.le hch.size⟩

def E.first (e : E) (g : Int) : E := (e.symbol (g / 8) (icdf 1)).uint (g % 8) 8
end Go.Proofs.Ytiabenmgbikllaa.M

-- F2
namespace Go.Proofs.Ytiabenmgbikllaa.M
set_option linter.unusedVariables false
open Go.RowKit Go.Proofs.YtiabenmgbikllaaW.PrintWords Go.Proofs.YtiabenmgbikllaaW.PrintLast Go.Proofs.YtiabenmgbikllaaW.PrintMore Go.Proofs.Ytiabenmgbikllaa.PAll
attribute [local go_sem] max2_int min2_int max_two min_two max_three min_three max_four min_four

theorem icdf3_f : ∀ i : Nat, i < 7 → madrigalref1_Icdf.f i = some (icdf i)
  | 0, _ => by decide +kernel
  | 1, _ => by decide +kernel
  | 2, _ => by decide +kernel
  | 3, _ => by decide +kernel
  | 4, _ => by decide +kernel
  | 5, _ => by decide +kernel
  | 6, _ => by decide +kernel
theorem icdf3_good : ∀ i : Nat, i < 7 → madrigalref1_Good.f 300 (icdf i) = some true
  | 0, _ => by decide +kernel
  | 1, _ => by decide +kernel
  | 2, _ => by decide +kernel
  | 3, _ => by decide +kernel
  | 4, _ => by decide +kernel
  | 5, _ => by decide +kernel
  | 6, _ => by decide +kernel
theorem icdf3_calls (w : World) (i : Nat) (hi : i < 7) : Calls Try.prog 24 #[.int .i64 i] w fun r w' => ∃ v, r = .returned v ∧ TabAt w w' (icdf i) v :=
  (madrigalref1_Icdf.calls i _ w (icdf3_f i hi)).mono fun r w' ⟨v, h1, h2, h3⟩ => by
    have ho := Kd.own_of_R h2
    obtain ⟨A, c, rfl⟩ := own_slice ho
    refine ⟨_, h1, A, c, rfl, readsInt_of.2 (own_reads_of' ho), own_le ho, fun ad ha => ?_, Chg.of_below h3 No⟩
    subst ha
    exact own_base ho ad.block rfl
end Go.Proofs.Ytiabenmgbikllaa.M

-- F3
namespace Go.Proofs.Ytiabenmgbikllaa.M
set_option linter.unusedVariables false
open Go.RowKit Go.Proofs.YtiabenmgbikllaaW.PrintWords Go.Proofs.YtiabenmgbikllaaW.PrintLast Go.Proofs.YtiabenmgbikllaaW.PrintMore Go.Proofs.Ytiabenmgbikllaa.PAll
attribute [local go_sem] max2_int min2_int max_two min_two max_three min_three max_four min_four

def D.endV (d : D) : Int := if d.back ≥ d.b.length then 0 else rd d.b (d.b.length - (d.back + 1))
def D.endB (d : D) : Int := if d.back ≥ d.b.length then d.back else d.back + 1
/-- A byte more waits. -/
def D.fill (d : D) : D := { d with back := d.endB, window := d.endV * 2 ^ d.waiting.toNat + d.window, waiting := d.waiting + 8 }
def D.fillL : Nat → Int → D → D
  | 0, _, d => d
  | k + 1, n, d => if d.waiting < n then D.fillL k n d.fill else d
def D.bitsV (d : D) (n : Int) : Int := (D.fillL 3 n d).window % 2 ^ n.toNat
def D.bits (d : D) (n : Int) : D := { D.fillL 3 n d with window := (D.fillL 3 n d).window / 2 ^ n.toNat, waiting := (D.fillL 3 n d).waiting - n, count := (D.fillL 3 n d).count + n }
/-- What holds of the bits that wait. -/
structure DRaw (d : D) : Prop where
  w0 : 0 ≤ d.waiting
  w1 : d.waiting ≤ 31
  x0 : 0 ≤ d.window
  x1 : d.window < 2 ^ d.waiting.toNat
  b0 : 0 ≤ d.back
  b1 : d.back ≤ d.b.length
theorem D.endV_range (d : D) (hb : Bytes d.b) (h : DRaw d) : 0 ≤ d.endV ∧ d.endV < 256 ∧ 0 ≤ d.endB ∧ d.endB ≤ d.b.length := by
  have h0 := h.b0
  have h1 := h.b1
  unfold D.endV D.endB
  split
  · omega
  · have := hb.at_ (d.b.length - (d.back + 1)) (by omega) (by omega)
    omega
theorem fill_ok (d : D) (hb : Bytes d.b) (h : DRaw d) (hw : d.waiting ≤ 23) : DRaw d.fill := by
  obtain ⟨e0, e1, e2, e3⟩ := d.endV_range hb h
  obtain ⟨h1, h2, h3, h4, h5, h6⟩ := h
  refine ⟨by show 0 ≤ d.waiting + 8; omega, by show d.waiting + 8 ≤ 31; omega, ?_, ?_, e2, e3⟩
  · show 0 ≤ d.endV * 2 ^ d.waiting.toNat + d.window
    have : 0 ≤ d.endV * 2 ^ d.waiting.toNat := Int.mul_nonneg e0 (by exact_mod_cast Nat.zero_le _)
    omega
  · show d.endV * 2 ^ d.waiting.toNat + d.window < 2 ^ (d.waiting + 8).toNat
    rw [show (d.waiting + 8).toNat = d.waiting.toNat + 8 from by omega, Int.pow_add]
    have : (d.endV + 1) * 2 ^ d.waiting.toNat ≤ 256 * 2 ^ d.waiting.toNat := Int.mul_le_mul_of_nonneg_right (by omega) (by exact_mod_cast Nat.zero_le _)
    rw [Int.add_mul] at this
    omega
theorem fillL_ok (n : Int) (hn : n ≤ 24) : ∀ (k : Nat) (d : D), Bytes d.b → DRaw d → DRaw (D.fillL k n d) ∧ (D.fillL k n d).b = d.b ∧ (n ≤ d.waiting + 8 * k → n ≤ (D.fillL k n d).waiting) ∧ (D.fillL k n d).count = d.count ∧ (D.fillL k n d).rng = d.rng ∧ (D.fillL k n d).val = d.val ∧ (D.fillL k n d).last = d.last ∧ (D.fillL k n d).front = d.front
  | 0, d, hb, h => ⟨h, rfl, fun hh => by show n ≤ d.waiting; omega, rfl, rfl, rfl, rfl, rfl⟩
  | k + 1, d, hb, h => by
    unfold D.fillL
    split
    · rename_i hc
      obtain ⟨a1, a2, a3, a4⟩ := fillL_ok n hn k d.fill hb (fill_ok d hb h (by omega))
      refine ⟨a1, a2, fun hh => a3 (by show n ≤ d.waiting + 8 + 8 * (k : Int); omega), a4⟩
    · exact ⟨h, rfl, fun _ => by omega, rfl, rfl, rfl, rfl, rfl⟩
theorem bits_ok (d : D) (h : DOk d) (hr : DRaw d) (n : Int) (h0 : 0 ≤ n) (hn : n ≤ 24) (hc : d.count ≤ 900000000000000000) : DOk (d.bits n) ∧ DRaw (d.bits n) ∧ (d.bits n).count = d.count + n ∧ (d.bits n).b = d.b ∧ 0 ≤ d.bitsV n ∧ d.bitsV n < 2 ^ n.toNat := by
  obtain ⟨a1, a2, a3, a4, a5, a6, a7, a8⟩ := fillL_ok n hn 3 d h.bytes hr
  have a3' := a3 (by have := hr.w0; omega)
  have hp : (0 : Int) < 2 ^ n.toNat := by exact_mod_cast Nat.two_pow_pos _
  have ec : (d.bits n).count = d.count + n := by show (D.fillL 3 n d).count + n = _; rw [a4]
  have eb : (d.bits n).b = d.b := a2
  have k0 := h.k0
  refine ⟨⟨⟨by rw [eb]; exact h.bytes, by rw [eb]; exact h.len, by show 0 ≤ (D.fillL 3 n d).last; rw [a7]; exact h.l0, by show (D.fillL 3 n d).last < 256; rw [a7]; exact h.l1, by show 0 ≤ (D.fillL 3 n d).front; rw [a8]; exact h.f0, by rw [eb]; show (D.fillL 3 n d).front ≤ _; rw [a8]; exact h.f1, by omega, by omega⟩,
    by show _ < (D.fillL 3 n d).rng; rw [a5]; exact h.r1, by show (D.fillL 3 n d).rng ≤ _; rw [a5]; exact h.r2, by show 0 ≤ (D.fillL 3 n d).val; rw [a6]; exact h.v0, by show (D.fillL 3 n d).val < (D.fillL 3 n d).rng; rw [a5, a6]; exact h.v1, by omega, by omega⟩, ?_, ec, eb, Int.emod_nonneg _ (by omega), Int.emod_lt_of_pos _ hp⟩
  have hw1 := a1.w1
  refine ⟨by show 0 ≤ (D.fillL 3 n d).waiting - n; omega, by show (D.fillL 3 n d).waiting - n ≤ 31; omega, Int.ediv_nonneg a1.x0 (by omega), ?_, a1.b0, by rw [eb, ← a2]; exact a1.b1⟩
  show (D.fillL 3 n d).window / 2 ^ n.toNat < 2 ^ ((D.fillL 3 n d).waiting - n).toNat
  have hx := a1.x1
  rw [show (D.fillL 3 n d).waiting.toNat = ((D.fillL 3 n d).waiting - n).toNat + n.toNat from by omega, Int.pow_add] at hx
  exact Int.ediv_lt_of_lt_mul hp hx
end Go.Proofs.Ytiabenmgbikllaa.M

-- F4
namespace Go.Proofs.Ytiabenmgbikllaa.M
set_option linter.unusedVariables false
open Go.RowKit Go.Proofs.YtiabenmgbikllaaW.PrintWords Go.Proofs.YtiabenmgbikllaaW.PrintLast Go.Proofs.YtiabenmgbikllaaW.PrintMore Go.Proofs.Ytiabenmgbikllaa.PAll
attribute [local go_sem] max2_int min2_int max_two min_two max_three min_three max_four min_four

theorem end_f (d : D) (h : DBase d) (hr : DRaw d) :
    rc_Dec_end.f d.b d.rng d.val d.last d.front d.back d.window d.waiting d.count d.bad = some (d.endV, d.rng, d.val, d.last, d.front, d.endB, d.window, d.waiting, d.count, d.bad) := by
  have hf := hr.b0
  have hf1 := hr.b1
  have hl := h.len
  unfold rc_Dec_end.f D.endV D.endB
  by_cases hc : d.back ≥ d.b.length
  · rw [if_pos hc, if_pos hc, if_pos hc]
  · rw [if_neg hc, if_neg hc, if_neg hc]
    rw [show wrap64 (d.back + 1) = d.back + 1 from by unfold wrap64; omega, show wrap64 ((d.b.length : Int) - (d.back + 1)) = (d.b.length : Int) - (d.back + 1) from by unfold wrap64; omega, if_pos (by omega), if_pos (by omega)]
    have hb := h.bytes.at_ ((d.b.length : Int) - (d.back + 1)) (by omega) (by omega)
    rw [wraps_u64 _ hb.1 (by omega)]
theorem or_fill (x y : Int) (i : Nat) (hi : i ≤ 23) (hx0 : 0 ≤ x) (hx : x < 2 ^ i) (hy0 : 0 ≤ y) (hy : y < 256) : bits .or .u64 x (IntKind.u64.wrap (y * 2 ^ i)) = y * 2 ^ i + x := by
  have h23 : (2 : Int) ^ i ≤ 2 ^ 23 := by exact_mod_cast Nat.pow_le_pow_right (by decide) hi
  have hp : (0 : Int) < 2 ^ i := by exact_mod_cast Nat.two_pow_pos i
  have h1 : 0 ≤ y * 2 ^ i := Int.mul_nonneg hy0 (by omega)
  have h2 : y * 2 ^ i ≤ 255 * 2 ^ 23 := Int.le_trans (Int.mul_le_mul_of_nonneg_right (show y ≤ 255 by omega) (by omega)) (Int.mul_le_mul_of_nonneg_left h23 (by omega))
  rw [wraps_u64 _ h1 (by omega)]
  have hj := bits_join .u64 63 (by decide) wraps_u64 i (y * 2 ^ i) x h1 (Int.mul_emod_left _ _) (by omega) hx0 hx (by omega)
  rw [← hj]
  obtain ⟨a, ha⟩ := Int.eq_ofNat_of_zero_le hx0
  obtain ⟨b, hb⟩ := Int.eq_ofNat_of_zero_le h1
  rw [hb, ha, (bits_nat .u64 63 (by decide) wraps_u64 a b (by omega) (by omega)).2, (bits_nat .u64 63 (by decide) wraps_u64 b a (by omega) (by omega)).2, Nat.or_comm]
theorem dend_calls (w0 w : World) (g : Nat) (d : D) (h : DecAt w0 w g d) (hd : DBase d) (hr : DRaw d) :
    Calls Try.prog 127 #[.pointer (some ⟨g, 0, none⟩)] w fun r w' => r = .returned (.int .u64 d.endV) ∧ DecAt w0 w' g { d with back := d.endB } ∧ Chg w w' (One g) :=
  (rc_Dec_end.calls g d.b d.rng d.val d.last d.front d.back d.window d.waiting d.count d.bad _ _ _ _ _ _ _ _ _ _ w0 w h.1 h.2 (end_f d hd hr)).mono
    fun r w' ⟨h1, h2, h3, h4⟩ => ⟨h1, (h.of { d with back := d.endB } rfl h2 h3 h4).1, (h.of { d with back := d.endB } rfl h2 h3 h4).2⟩
/-- The cells of a reader. -/
theorem DecAt.cells {w0 w : World} {g : Nat} {d : D} (h : DecAt w0 w g d) : w.cell? ⟨g, 6, none⟩ = some (.int .u64 d.window) ∧ w.cell? ⟨g, 7, none⟩ = some (.int .i64 d.waiting) ∧ w.cell? ⟨g, 8, none⟩ = some (.int .i64 d.count) ∧ w.frozen? ⟨g, 6, none⟩ = false ∧ w.frozen? ⟨g, 7, none⟩ = false ∧ w.frozen? ⟨g, 8, none⟩ = false := by
  obtain ⟨⟨A, c, hb, _, _⟩, _⟩ := h
  exact ⟨cellS91_6 hb, cellS91_7 hb, cellS91_8 hb, blk_frozen hb 6, blk_frozen hb 7, blk_frozen hb 8⟩
set_option maxHeartbeats 2000000 in
set_option maxRecDepth 100000 in
theorem dbits_calls (w0 w : World) (g : Nat) (d : D) (n : Int) (h : DecAt w0 w g d) (hd : DOk d) (hr : DRaw d) (h0 : 0 ≤ n) (hn : n ≤ 24) (hc : d.count ≤ 900000000000000000) :
    Calls Try.prog 89 #[.pointer (some ⟨g, 0, none⟩), .int .i64 n] w fun r w' => r = .returned (.int .i64 (d.bitsV n)) ∧ DecAt w0 w' g (d.bits n) ∧ Chg w w' (One g) := by
  have HH := Aside0.mk (And.intro h (And.intro hd hr))
  clear h hd hr
  have b1 : decide (n < 0) = false := decide_eq_false (by omega)
  have b2 : decide (24 < n) = false := decide_eq_false (by omega)
  go_enter Try.func89, Try.ntmps89
  go_wp2_with fail
  go_loopg [] 3 (fun k wr => ∃ d', Aside0 (D.fillL k n d' = D.fillL 3 n d ∧ DecAt w0 wr g d' ∧ DRaw d' ∧ DBase d' ∧ d'.b = d.b ∧ Chg w wr (One g)) ∧ n ≤ d'.waiting + 8 * k ∧ 0 ≤ d'.waiting ∧ d'.waiting ≤ 31)
  case atStart => exact ⟨d, ⟨rfl, HH.out.1, HH.out.2.2, HH.out.2.1.toDBase, rfl, Chg.refl _ _⟩, by have := HH.out.2.2.w0; omega, HH.out.2.2.w0, HH.out.2.2.w1⟩
  case round =>
    obtain ⟨d', HD, k1, k2, k3⟩ := hrel
    obtain ⟨c6, c7, c8, z6, z7, z8⟩ := HD.out.2.1.cells
    by_cases hlt : d'.waiting < n
    · obtain ⟨e0, e1, e2, e3⟩ := d'.endV_range HD.out.2.2.2.1.bytes HD.out.2.2.1
      have hor := or_fill d'.window d'.endV d'.waiting.toNat (by omega) HD.out.2.2.1.x0 HD.out.2.2.1.x1 e0 e1
      have HO := Aside0.mk hor
      clear hor
      go_wp2_with fail
      go_region_with (first
        | (go_at_call 127
           refine (dend_calls w0 _ g d' (HD.out.2.1.chg (S := No) (by repeat (first | exact Chg.refl _ No | apply Chg.drew | apply Chg.drewN)) (fun h => h) (fun _ h => False.elim h)) HD.out.2.2.2.1 HD.out.2.2.1).mono ?_
           rintro r w2 ⟨rfl, h1, h2⟩
           have p6 : w2.cell? ⟨g, 6, none⟩ = some (.int .u64 d'.window) := h1.cells.1
           have p7 : w2.cell? ⟨g, 7, none⟩ = some (.int .i64 d'.waiting) := h1.cells.2.1
           have y6 : w2.frozen? ⟨g, 6, none⟩ = false := h1.cells.2.2.2.1
           have y7 : w2.frozen? ⟨g, 7, none⟩ = false := h1.cells.2.2.2.2.1
           have H2 : Aside0 (DecAt w0 w2 g { d' with back := d'.endB } ∧ Chg wr w2 (One g)) := ⟨h1, Chg.trans (S := One g) (by repeat (first | exact Chg.refl _ (One g) | apply Chg.drew | apply Chg.drewN)) h2 (Ext.refl _ _)⟩
           clear h1 h2))
      all_goals
        have HS : Aside0 (DecAt w0 ((w2.setCell ⟨g, 6, none⟩ (.int .u64 (d'.endV * 2 ^ d'.waiting.toNat + d'.window))).setCell ⟨g, 7, none⟩ (.int .i64 (d'.waiting + 8))) g d'.fill ∧ Chg w ((w2.setCell ⟨g, 6, none⟩ (.int .u64 (d'.endV * 2 ^ d'.waiting.toNat + d'.window))).setCell ⟨g, 7, none⟩ (.int .i64 (d'.waiting + 8))) (One g)) := by
          obtain ⟨⟨q1, q2⟩, q3⟩ := H2.out
          refine ⟨⟨(q1.set_6 _).set_7 _, (q2.setCell (p := ⟨g, 6, none⟩) q1.ge _).setCell (p := ⟨g, 7, none⟩) q1.ge _⟩, ?_⟩
          exact ((HD.out.2.2.2.2.2.trans q3 (Ext.refl _ _)).setCell (p := ⟨g, 6, none⟩) (.inl rfl) _).setCell (p := ⟨g, 7, none⟩) (.inl rfl) _
        rw [HO.out]
        go_wp2_with fail
        go_roundg (gk - 1)
        case measure => omega
        case rel =>
          refine ⟨d'.fill, ⟨?_, HS.out.1, fill_ok d' HD.out.2.2.2.1.bytes HD.out.2.2.1 (by omega), ?_, HD.out.2.2.2.2.1, HS.out.2⟩, ?_, ?_, ?_⟩
          · rw [← HD.out.1]
            obtain ⟨m, rfl⟩ : ∃ m, gk = m + 1 := ⟨gk - 1, by omega⟩
            show D.fillL m n d'.fill = (if d'.waiting < n then _ else _)
            rw [if_pos hlt]
          · obtain ⟨q1, q2, q3, q4, q5, q6, q7, q8⟩ := HD.out.2.2.2.1
            exact ⟨q1, q2, q3, q4, q5, q6, q7, q8⟩
          · show n ≤ d'.waiting + 8 + 8 * ((gk - 1 : Nat) : Int); omega
          · show 0 ≤ d'.waiting + 8; omega
          · show d'.waiting + 8 ≤ 31; omega
    · have he : Aside0 (D.fillL 3 n d = d') := ⟨by
        rw [← HD.out.1]
        cases gk with
        | zero => rfl
        | succ m => show (if d'.waiting < n then _ else _) = _; rw [if_neg hlt]⟩
      have hp1 : (1 : Int) ≤ 2 ^ n.toNat := by exact_mod_cast Nat.one_le_two_pow
      have hp2 : (2 : Int) ^ n.toNat ≤ 2 ^ 24 := by exact_mod_cast Nat.pow_le_pow_right (by decide) (show n.toNat ≤ 24 by omega)
      have x0 := HD.out.2.2.1.x0
      have x1 : d'.window < 2 ^ 31 := Int.lt_of_lt_of_le HD.out.2.2.1.x1 (by exact_mod_cast Nat.pow_le_pow_right (by decide) (show d'.waiting.toNat ≤ 31 by omega))
      have m1 : IntKind.u64.wrap (1 * 2 ^ n.toNat) = 2 ^ n.toNat := by rw [Int.one_mul]; exact wraps_u64 _ (by omega) (by omega)
      have m2 : IntKind.u64.wrap (2 ^ n.toNat - 1) = 2 ^ n.toNat - 1 := wraps_u64 _ (by omega) (by omega)
      have m3 : bits .and .u64 d'.window (2 ^ n.toNat - 1) = d'.window % 2 ^ n.toNat := bits_mask .u64 63 (by decide) wraps_u64 n.toNat (by omega) _ x0 (by omega)
      have m4 : 0 ≤ d'.window % 2 ^ n.toNat := Int.emod_nonneg _ (by omega)
      have m5 : d'.window % 2 ^ n.toNat < 2 ^ n.toNat := Int.emod_lt_of_pos _ (by omega)
      have m6 : 0 ≤ d'.window / 2 ^ n.toNat := Int.ediv_nonneg x0 (by omega)
      have m7 : d'.window / 2 ^ n.toNat ≤ d'.window := Int.ediv_le_self _ x0
      have e1 := HD.out.2.2.2.1.c0
      have hcnt : d'.count = d.count := by rw [← he.out]; exact (fillL_ok n hn 3 d HH.out.2.1.bytes HH.out.2.2).2.2.2.1
      have hk0 := HH.out.2.1.k0
      go_wp2_with fail
      go_region
      go_wp2_with fail
      try go_region
      go_returns
      have hb : d.bits n = { d' with window := d'.window / 2 ^ n.toNat, waiting := d'.waiting - n, count := d.count + n } := by unfold D.bits; rw [he.out, hcnt]
      have hv : d.bitsV n = d'.window % 2 ^ n.toNat := by unfold D.bitsV; rw [he.out]
      obtain ⟨q1, q2⟩ := HD.out.2.1
      refine ⟨by rw [hv]; rfl, ?_, ?_⟩
      · rw [hb]
        refine ⟨(((q1.set_6 _).set_7 _).set_8 _).drew, ?_⟩
        exact (((q2.setCell (p := ⟨g, 6, none⟩) q1.ge _).setCell (p := ⟨g, 7, none⟩) q1.ge _).setCell (p := ⟨g, 8, none⟩) q1.ge _).drew
      · exact (((HD.out.2.2.2.2.2.setCell (p := ⟨g, 6, none⟩) (.inl rfl) _).setCell (p := ⟨g, 7, none⟩) (.inl rfl) _).setCell (p := ⟨g, 8, none⟩) (.inl rfl) _).drew
end Go.Proofs.Ytiabenmgbikllaa.M

-- F5
namespace Go.Proofs.Ytiabenmgbikllaa.M
set_option linter.unusedVariables false
open Go.RowKit Go.Proofs.YtiabenmgbikllaaW.PrintWords Go.Proofs.YtiabenmgbikllaaW.PrintLast Go.Proofs.YtiabenmgbikllaaW.PrintMore Go.Proofs.Ytiabenmgbikllaa.PAll
attribute [local go_sem] max2_int min2_int max_two min_two max_three min_three max_four min_four

set_option maxHeartbeats 2000000 in
set_option maxRecDepth 100000 in
theorem rbits_calls (w0 w : World) (g : Nat) (d : D) (n : Int) (h : RefAt w0 w g d) (hd : DOk d) (hr : DRaw d) (h0 : 0 ≤ n) (hn : n ≤ 24) (hc : d.count ≤ 900000000000000000) :
    Calls Try.prog 78 #[.pointer (some ⟨g, 0, none⟩), .int .i64 n] w fun r w' => r = .returned (.int .i64 (d.bitsV n)) ∧ RefAt w0 w' g (d.bits n) ∧ Chg w w' (One g) := by
  obtain ⟨e, h⟩ := h
  have HH := Aside0.mk (And.intro h (And.intro hd hr))
  clear h hd hr
  have b1 : decide (n < 0) = false := decide_eq_false (by omega)
  have b2 : decide (24 < n) = false := decide_eq_false (by omega)
  go_enter Try.func78, Try.ntmps78
  go_wp2_with fail
  go_loopg [] 3 (fun k wr => ∃ d', Aside0 (D.fillL k n d' = D.fillL 3 n d ∧ RefE w0 wr g d' e ∧ DRaw d' ∧ DBase d' ∧ d'.b = d.b ∧ Chg w wr (One g)) ∧ n ≤ d'.waiting + 8 * k ∧ 0 ≤ d'.waiting ∧ d'.waiting ≤ 31)
  case atStart => exact ⟨d, ⟨rfl, HH.out.1, HH.out.2.2, HH.out.2.1.toDBase, rfl, Chg.refl _ _⟩, by have := HH.out.2.2.w0; omega, HH.out.2.2.w0, HH.out.2.2.w1⟩
  case round =>
    obtain ⟨d', HD, k1, k2, k3⟩ := hrel
    obtain ⟨A, c, hb, hge, hrd⟩ := HD.out.2.1.1
    have c0 := cellS95_0 hb
    have c5 := cellS95_5 hb
    have c6 := cellS95_6 hb
    have c7 := cellS95_7 hb
    have c8 := cellS95_8 hb
    have z5 := blk_frozen hb 5
    have z6 := blk_frozen hb 6
    have z7 := blk_frozen hb 7
    have z8 := blk_frozen hb 8
    by_cases hlt : d'.waiting < n
    · obtain ⟨e0, e1, e2, e3⟩ := d'.endV_range HD.out.2.2.2.1.bytes HD.out.2.2.1
      have hor := or_fill d'.window d'.endV d'.waiting.toNat (by omega) HD.out.2.2.1.x0 HD.out.2.2.1.x1 e0 e1
      have hwu : IntKind.u64.wrap d'.waiting = d'.waiting := wraps_u64 _ k2 (by omega)
      have hl := HD.out.2.2.2.1.len
      have q0 := HD.out.2.2.1.b0
      by_cases hbk : d'.back < d'.b.length
      · have q1 : decide (d'.back < (d'.b.length : Int)) = true := decide_eq_true hbk
        have hV : Aside0 (d'.endV = rd d'.b (d'.b.length - (d'.back + 1)) ∧ d'.endB = d'.back + 1) := ⟨by unfold D.endV D.endB; rw [if_neg (by omega), if_neg (by omega)]; exact ⟨rfl, rfl⟩⟩
        have HO := Aside0.mk hor
        clear hor
        go_wp2_with fail
        go_region
        go_wp2_with fail
        obtain ⟨ad, rfl, hx⟩ := Kd.at_int hrd ((d'.b.length : Int) - (d'.back + 1)) (by omega) (by omega)
        have hbt := HD.out.2.2.2.1.bytes.at_ ((d'.b.length : Int) - (d'.back + 1)) (by omega) (by omega)
        have hx1 : ((wr.setCell ⟨g, 5, none⟩ (.int .i64 (d'.back + 1))).drew).cell? (ad.add ((d'.b.length : Int) - (d'.back + 1)).toNat) = some (.int .u8 (rd d'.b ((d'.b.length : Int) - (d'.back + 1)))) :=
          pw_cell_below ((HD.out.2.1.2.setCell (p := ⟨g, 5, none⟩) hge _).drew) hx
        have HB5 : Aside0 (RefE w0 ((wr.setCell ⟨g, 5, none⟩ (.int .i64 (d'.back + 1))).drew) g { d' with back := d'.back + 1 } e ∧ Chg w ((wr.setCell ⟨g, 5, none⟩ (.int .i64 (d'.back + 1))).drew) (One g)) :=
          ⟨⟨(HD.out.2.1.1.set_5 _).drew, (HD.out.2.1.2.setCell (p := ⟨g, 5, none⟩) hge _).drew⟩, (HD.out.2.2.2.2.2.setCell (p := ⟨g, 5, none⟩) (.inl rfl) _).drew⟩
        have hb5 : ((wr.setCell ⟨g, 5, none⟩ (.int .i64 (d'.back + 1))).drew).heap[g]? = some (.cells #[.slice (some ad) d'.b.length c, .int .u64 d'.rng, .int .u64 d'.val, .int .i64 d'.last, .int .i64 d'.front, .int .i64 (d'.back + 1), .int .u64 d'.window, .int .i64 d'.waiting, .int .i64 d'.count, .bool d'.bad, .int .u64 e] 95 (0, 0)) := by
          have := blk_set hb 5 (.int .i64 (d'.back + 1))
          simp only [List.setIfInBounds_toArray, List.set_cons_succ, List.set_cons_zero] at this
          exact this
        clear c0 c5 c6 c7 c8 z5 z6 z7 z8
        generalize (wr.setCell ⟨g, 5, none⟩ (.int .i64 (d'.back + 1))).drew = W at *
        have c0 := cellS95_0 hb5
        have c5 := cellS95_5 hb5
        have c6 := cellS95_6 hb5
        have c7 := cellS95_7 hb5
        have z6 := blk_frozen hb5 6
        have z7 := blk_frozen hb5 7
        have uV : IntKind.u64.wrap (rd d'.b ((d'.b.length : Int) - (d'.back + 1))) = d'.endV := by rw [hV.out.1]; exact wraps_u64 _ hbt.1 (by omega)
        clear hb5
        go_region
        go_wp2_with fail
        have hor := HO.out
        have HS : Aside0 (RefE w0 ((W.drew.drew.setCell ⟨g, 6, none⟩ (.int .u64 (d'.endV * 2 ^ d'.waiting.toNat + d'.window))).setCell ⟨g, 7, none⟩ (.int .i64 (d'.waiting + 8))) g d'.fill e ∧ Chg w ((W.drew.drew.setCell ⟨g, 6, none⟩ (.int .u64 (d'.endV * 2 ^ d'.waiting.toNat + d'.window))).setCell ⟨g, 7, none⟩ (.int .i64 (d'.waiting + 8))) (One g)) := by
          obtain ⟨⟨q1, q2⟩, q3⟩ := HB5.out
          refine ⟨⟨?_, (q2.drew.drew.setCell (p := ⟨g, 6, none⟩) q1.ge _).setCell (p := ⟨g, 7, none⟩) q1.ge _⟩, ?_⟩
          · have := (q1.drew.drew.set_6 (d'.endV * 2 ^ d'.waiting.toNat + d'.window)).set_7 (d'.waiting + 8)
            have e5 : d'.fill.back = d'.back + 1 := hV.out.2
            rw [e5]
            exact this
          · exact (q3.drew.drew.setCell (p := ⟨g, 6, none⟩) (.inl rfl) _).setCell (p := ⟨g, 7, none⟩) (.inl rfl) _
        go_region
        go_wp2_with fail
        go_roundg (gk - 1)
        case measure => omega
        case rel =>
          refine ⟨d'.fill, ⟨?_, HS.out.1, fill_ok d' HD.out.2.2.2.1.bytes HD.out.2.2.1 (by omega), ?_, HD.out.2.2.2.2.1, HS.out.2⟩, ?_, ?_, ?_⟩
          · rw [← HD.out.1]
            obtain ⟨m, rfl⟩ : ∃ m, gk = m + 1 := ⟨gk - 1, by omega⟩
            show D.fillL m n d'.fill = (if d'.waiting < n then _ else _)
            rw [if_pos hlt]
          · obtain ⟨q1, q2, q3, q4, q5, q6, q7, q8⟩ := HD.out.2.2.2.1
            exact ⟨q1, q2, q3, q4, q5, q6, q7, q8⟩
          · show n ≤ d'.waiting + 8 + 8 * ((gk - 1 : Nat) : Int); omega
          · show 0 ≤ d'.waiting + 8; omega
          · show d'.waiting + 8 ≤ 31; omega
      · have q1 : decide (d'.back < (d'.b.length : Int)) = false := decide_eq_false hbk
        have hV : Aside0 (d'.endV = 0 ∧ d'.endB = d'.back) := ⟨by unfold D.endV D.endB; rw [if_pos (by omega), if_pos (by omega)]; exact ⟨rfl, rfl⟩⟩
        have HO := Aside0.mk hor
        clear hor
        go_wp2_with fail
        go_region
        go_wp2_with fail
        have hor' : bits .or .u64 d'.window 0 = d'.endV * 2 ^ d'.waiting.toNat + d'.window := by
          have := HO.out
          rw [hV.out.1, show IntKind.u64.wrap (0 * 2 ^ d'.waiting.toNat) = 0 from by rw [Int.zero_mul]; rfl] at this
          rw [hV.out.1]
          exact this
        go_wp2_with fail
        have HS : Aside0 (RefE w0 ((wr.drew.drew.setCell ⟨g, 6, none⟩ (.int .u64 (d'.endV * 2 ^ d'.waiting.toNat + d'.window))).setCell ⟨g, 7, none⟩ (.int .i64 (d'.waiting + 8))) g d'.fill e ∧ Chg w ((wr.drew.drew.setCell ⟨g, 6, none⟩ (.int .u64 (d'.endV * 2 ^ d'.waiting.toNat + d'.window))).setCell ⟨g, 7, none⟩ (.int .i64 (d'.waiting + 8))) (One g)) := by
          obtain ⟨q1, q2⟩ := HD.out.2.1
          refine ⟨⟨?_, (q2.drew.drew.setCell (p := ⟨g, 6, none⟩) hge _).setCell (p := ⟨g, 7, none⟩) hge _⟩, ?_⟩
          · have := (q1.drew.drew.set_6 (d'.endV * 2 ^ d'.waiting.toNat + d'.window)).set_7 (d'.waiting + 8)
            have e5 : d'.fill.back = d'.back := hV.out.2
            rw [e5]
            exact this
          · exact (HD.out.2.2.2.2.2.drew.drew.setCell (p := ⟨g, 6, none⟩) (.inl rfl) _).setCell (p := ⟨g, 7, none⟩) (.inl rfl) _
        go_region
        go_wp2_with fail
        go_roundg (gk - 1)
        case measure => omega
        case rel =>
          refine ⟨d'.fill, ⟨?_, HS.out.1, fill_ok d' HD.out.2.2.2.1.bytes HD.out.2.2.1 (by omega), ?_, HD.out.2.2.2.2.1, HS.out.2⟩, ?_, ?_, ?_⟩
          · rw [← HD.out.1]
            obtain ⟨m, rfl⟩ : ∃ m, gk = m + 1 := ⟨gk - 1, by omega⟩
            show D.fillL m n d'.fill = (if d'.waiting < n then _ else _)
            rw [if_pos hlt]
          · obtain ⟨q1, q2, q3, q4, q5, q6, q7, q8⟩ := HD.out.2.2.2.1
            exact ⟨q1, q2, q3, q4, q5, q6, q7, q8⟩
          · show n ≤ d'.waiting + 8 + 8 * ((gk - 1 : Nat) : Int); omega
          · show 0 ≤ d'.waiting + 8; omega
          · show d'.waiting + 8 ≤ 31; omega
    · have he : Aside0 (D.fillL 3 n d = d') := ⟨by
        rw [← HD.out.1]
        cases gk with
        | zero => rfl
        | succ m => show (if d'.waiting < n then _ else _) = _; rw [if_neg hlt]⟩
      have hp1 : (1 : Int) ≤ 2 ^ n.toNat := by exact_mod_cast Nat.one_le_two_pow
      have hp2 : (2 : Int) ^ n.toNat ≤ 2 ^ 24 := by exact_mod_cast Nat.pow_le_pow_right (by decide) (show n.toNat ≤ 24 by omega)
      have x0 := HD.out.2.2.1.x0
      have x1 : d'.window < 2 ^ 31 := Int.lt_of_lt_of_le HD.out.2.2.1.x1 (by exact_mod_cast Nat.pow_le_pow_right (by decide) (show d'.waiting.toNat ≤ 31 by omega))
      have m1 : IntKind.u64.wrap (1 * 2 ^ n.toNat) = 2 ^ n.toNat := by rw [Int.one_mul]; exact wraps_u64 _ (by omega) (by omega)
      have m2 : IntKind.u64.wrap (2 ^ n.toNat - 1) = 2 ^ n.toNat - 1 := wraps_u64 _ (by omega) (by omega)
      have m3 : bits .and .u64 d'.window (2 ^ n.toNat - 1) = d'.window % 2 ^ n.toNat := bits_mask .u64 63 (by decide) wraps_u64 n.toNat (by omega) _ x0 (by omega)
      have m4 : 0 ≤ d'.window % 2 ^ n.toNat := Int.emod_nonneg _ (by omega)
      have m5 : d'.window % 2 ^ n.toNat < 2 ^ n.toNat := Int.emod_lt_of_pos _ (by omega)
      have m6 : 0 ≤ d'.window / 2 ^ n.toNat := Int.ediv_nonneg x0 (by omega)
      have m7 : d'.window / 2 ^ n.toNat ≤ d'.window := Int.ediv_le_self _ x0
      have e1 := HD.out.2.2.2.1.c0
      have hcnt : d'.count = d.count := by rw [← he.out]; exact (fillL_ok n hn 3 d HH.out.2.1.bytes HH.out.2.2).2.2.2.1
      have hk0 := HH.out.2.1.k0
      have hwn : IntKind.u64.wrap n = n := wraps_u64 _ h0 (by omega)
      go_wp2_with fail
      try go_region
      try go_wp2_with fail
      try go_region
      go_returns
      have hb : d.bits n = { d' with window := d'.window / 2 ^ n.toNat, waiting := d'.waiting - n, count := d.count + n } := by unfold D.bits; rw [he.out, hcnt]
      have hv : d.bitsV n = d'.window % 2 ^ n.toNat := by unfold D.bitsV; rw [he.out]
      obtain ⟨q1, q2⟩ := HD.out.2.1
      refine ⟨by rw [hv]; rfl, ?_, ?_⟩
      · rw [hb]
        refine ⟨e, ((q1.set_6 _).set_7 _).set_8 _, ?_⟩
        exact ((q2.setCell (p := ⟨g, 6, none⟩) q1.ge _).setCell (p := ⟨g, 7, none⟩) q1.ge _).setCell (p := ⟨g, 8, none⟩) q1.ge _
      · exact ((HD.out.2.2.2.2.2.setCell (p := ⟨g, 6, none⟩) (.inl rfl) _).setCell (p := ⟨g, 7, none⟩) (.inl rfl) _).setCell (p := ⟨g, 8, none⟩) (.inl rfl) _
end Go.Proofs.Ytiabenmgbikllaa.M

-- G4
namespace Go.Proofs.Ytiabenmgbikllaa.M
set_option linter.unusedVariables false
open Go.RowKit Go.Proofs.YtiabenmgbikllaaW.PrintWords Go.Proofs.YtiabenmgbikllaaW.PrintLast Go.Proofs.YtiabenmgbikllaaW.PrintMore Go.Proofs.Ytiabenmgbikllaa.PAll
attribute [local go_sem] max2_int min2_int max_two min_two max_three min_three max_four min_four

theorem info3' : (Try.prog.info? 3).map (fun i => (i.zero, i.size, i.bytes)) = some (some (.int .i64 0), 1, 8) := by kernel_rfl
end Go.Proofs.Ytiabenmgbikllaa.M

-- G5
namespace Go.Proofs.Ytiabenmgbikllaa.M
set_option linter.unusedVariables false
open Go.RowKit Go.Proofs.YtiabenmgbikllaaW.PrintWords Go.Proofs.YtiabenmgbikllaaW.PrintLast Go.Proofs.YtiabenmgbikllaaW.PrintMore Go.Proofs.Ytiabenmgbikllaa.PAll
attribute [local go_sem] max2_int min2_int max_two min_two max_three min_three max_four min_four

theorem dsym_at (w0 w w1 : World) (g : Nat) (d : D) (i : Nat) (v : Value) (h : DecAt w0 w g d) (hd : DOk d) (hi : i < 7) (ht : TabAt w w1 (icdf i) v) (hk : d.count ≤ 900000000000000000) :
    Calls Try.prog 87 #[.pointer (some ⟨g, 0, none⟩), v] w1 fun r w' => r = .returned (.int .i64 (d.symV (icdf i))) ∧ DecAt w0 w' g (d.sym (icdf i)) ∧ Chg w w' (One g) := by
  obtain ⟨A, c, rfl, hr, hc, hb, hch⟩ := ht
  exact (dsym_calls w0 w1 g d (icdf i) A c (h.chg hch (fun hh => hh) (fun _ hh => hh.elim)) hd (icdf_ok i hi) (icdf_pos i) hr hc (fun ad ha hh => by have := hb ad ha; have := h.lt; omega) hk).mono
    fun r w' ⟨hr, h1, h2⟩ => ⟨hr, h1, (hch.mono (fun _ hh => hh.elim)).trans h2 (Ext.refl _ _)⟩

theorem own_two {w : World} {e : TypeId} {n : Nat} {z : Value} {xs : List Value} (h : w.ownsRow 0 e 1 z (n + 1) xs) : ∃ b cap, z = .slice (some ⟨b, 0, none⟩) (n + 1) cap := by
  rcases h.2 with ⟨_, h0⟩ | ⟨b, cap, _, hv, _⟩
  · omega
  · exact ⟨b, cap, hv⟩
theorem small_ok (d : D) (h : DOk d) (ft : Int) (f0 : 1 ≤ ft) (f1 : ft ≤ 32768) (hk : d.count ≤ 900000000000000000) : DOk (d.small ft) ∧ (d.small ft).count ≤ d.count + 24 ∧ (d.small ft).b = d.b ∧ 0 ≤ d.choose ft ∧ d.choose ft < ft := by
  have hp := small_place d h ft f0 f1
  obtain ⟨a, b, c⟩ := take_ok d h _ _ ft hp hk
  have := hp.a0
  have := hp.a1
  have := hp.a2
  exact ⟨a, b, c, by omega, by omega⟩

end Go.Proofs.Ytiabenmgbikllaa.M

-- E6
namespace Go.Proofs.Ytiabenmgbikllaa.M
open Go.RowKit Go.Proofs.YtiabenmgbikllaaW.PrintWords Go.Proofs.YtiabenmgbikllaaW.PrintLast Go.Proofs.YtiabenmgbikllaaW.PrintMore
attribute [local go_sem] max2_int min2_int max_two min_two max_three min_three max_four min_four

theorem nz_calls (w : World) (x : Int) : Calls Try.prog 97 #[.int .u8 x] w fun r w' => r = .returned (.bool (x != 0)) ∧ w = w' := by
  go_enter Try.func97, Try.ntmps97
  go_wp2
  go_returns
  exact ⟨rfl, rfl⟩

/-- One of the numbers is not nought. -/
def anyNZ (xs : List Int) : Bool := xs.any (fun x => x != 0)
def SomeNZ (xs : List Int) (w : World) (e : Ending) (w' : World) : Prop := ∃ r : Int, e = .returned (.int .i64 r) ∧ decide (0 ≤ r) = anyNZ xs ∧ w = w'

theorem anyNZ_hit (xs : List Int) (k : Nat) (h : k < xs.length) (hx : rd xs k ≠ 0) : anyNZ xs = true := by
  unfold anyNZ
  rw [List.any_eq_true]
  refine ⟨xs[k], List.getElem_mem h, ?_⟩
  have : rd xs k = xs[k] := by simp [rd, h]
  rw [this] at hx
  simpa using hx
theorem anyNZ_none (xs : List Int) (h : ∀ k : Nat, k < xs.length → rd xs k = 0) : anyNZ xs = false := by
  unfold anyNZ
  rw [List.any_eq_false]
  intro x hx
  obtain ⟨k, hk, rfl⟩ := List.getElem_of_mem hx
  have := h k hk
  have e : rd xs k = xs[k] := by simp [rd, hk]
  rw [e] at this
  simp [this]

set_option maxHeartbeats 1000000 in
set_option maxRecDepth 100000 in
theorem indexFunc_calls (w : World) (A : Option Addr) (c : Nat) (xs : List Int) (hr : ReadsInt w .u8 A xs.length xs) (hn : xs.length ≤ 140737488355328) :
    Calls Try.prog 133 #[.slice A xs.length c, .func (.func 97) #[] #[]] w (SomeNZ xs w) := by
  have HR := Aside0.mk hr
  clear hr
  go_enter Try.func133, Try.ntmps133
  go_wp2
  go_loopg [5, 8] xs.length (fun k u5 u8 wr => ∃ i : Nat, wr = w ∧ u8 = .int .i64 i ∧ k + i = xs.length ∧ Aside0 (∀ j : Nat, j < i → rd xs j = 0))
  case atStart => exact ⟨0, rfl, rfl, by omega, ⟨fun j hj => absurd hj (by omega)⟩⟩
  case round =>
    obtain ⟨i, rfl, rfl, hk, HZ⟩ := hrel
    by_cases hi : i < xs.length
    · obtain ⟨ad, rfl, hx⟩ := HR.out.at_ (i : Int) (by omega) (by omega)
      simp only [Int.toNat_natCast] at hx
      by_cases hz : rd xs i = 0
      · have hzb : (rd xs i != 0) = false := by simp [hz]
        have HX := Aside0.mk hz
        clear hz
        go_wp2_with (go_at_call 97; refine (nz_calls _ _).mono ?_; rintro r w1 ⟨rfl, rfl⟩)
        go_roundg (gk - 1)
        case measure => omega
        case rel => exact ⟨i + 1, rfl, by go_num, by omega, ⟨fun j hj => by rcases Nat.lt_succ_iff_lt_or_eq.1 hj with h | h; exact HZ.out j h; rw [h]; exact HX.out⟩⟩
      · have hzb : (rd xs i != 0) = true := by simp [hz]
        have HX := Aside0.mk (anyNZ_hit xs i hi hz)
        clear hz
        go_wp2_with (go_at_call 97; refine (nz_calls _ _).mono ?_; rintro r w1 ⟨rfl, rfl⟩)
        go_returns
        exact ⟨i, rfl, by rw [HX.out]; simp, rfl⟩
    · have HX := Aside0.mk (anyNZ_none xs (fun k hk => HZ.out k (by omega)))
      clear HZ
      go_wp2
      go_returns
      exact ⟨-1, rfl, by rw [HX.out]; simp, rfl⟩

set_option maxHeartbeats 1000000 in
set_option maxRecDepth 100000 in
theorem contains_calls (w : World) (A : Option Addr) (c : Nat) (xs : List Int) (hr : ReadsInt w .u8 A xs.length xs) (hn : xs.length ≤ 140737488355328) :
    Calls Try.prog 96 #[.slice A xs.length c, .func (.func 97) #[] #[]] w fun r w' => r = .returned (.bool (anyNZ xs)) ∧ w = w' := by
  have HR := Aside0.mk hr
  clear hr
  go_enter Try.func96, Try.ntmps96
  go_wp2_with fail
  refine (indexFunc_calls w _ _ xs HR.out hn).mono ?_
  rintro r w1 ⟨r, rfl, hb, rfl⟩
  have HB := Aside0.mk hb
  clear hb
  go_wp2
  go_returns
  refine ⟨?_, rfl⟩
  rw [← HB.out]
  rfl
end Go.Proofs.Ytiabenmgbikllaa.M

-- A2
namespace Go.Proofs.Ytiabenmgbikllaa.M
open Go.RowKit Go.Proofs.YtiabenmgbikllaaW.PrintWords Go.Proofs.YtiabenmgbikllaaW.PrintLast Go.Proofs.YtiabenmgbikllaaW.PrintMore

section
variable {P : Program} {ops : Array Oper} {rest : List Oper} {o : Oper} {a : Act} {Q : Exit → Act → World → Prop}
theorem Chg.setRow {w : World} {g : Nat} (cs : Array Value) : Chg w (w.setRow g cs) (fun b => b = g) :=
  ⟨rfl, rfl, rfl, by simp [World.setRow], fun k _ hn => setRow_other w g k cs hn⟩
theorem copyRow {W : World} (hgd : o.guard = none) (d s : Operand) (T e : TypeId) (k : IntKind) (ho : o.op = .call { callee := .builtin .copy, args := #[d, s], argTypes := #[T, T] })
    (hu : P.underlying T = some (.slice e)) (hsz : (P.info? e).map (·.size) = some 1) (g n cap : Nat) (xs ys : List Int) (A : Option Addr) (c : Nat)
    (hd : a.eval d = .slice (some ⟨g, 0, none⟩) n cap) (hs : a.eval s = .slice A ys.length c) (HO : W.ownsRow 0 e 1 (.slice (some ⟨g, 0, none⟩) n cap) n (nums k xs)) (HR : ReadsInt W k A ys.length ys)
    (h : ∀ w1, w1.ownsRow 0 e 1 (.slice (some ⟨g, 0, none⟩) n cap) n (nums k (ys.take n ++ xs.drop ys.length)) → Chg W w1 (fun b => b = g) → wpList P ops Q rest (a.put o.dst (goInt (Nat.min ys.length n))) w1) :
    wpList P ops Q (o :: rest) a W := by
  have hxl : xs.length = n := by have := HO.1; simpa [nums] using this
  by_cases h0 : Nat.min ys.length n = 0
  · have hh := h W (by
      have : ys.take n ++ xs.drop ys.length = xs := by
        by_cases hy : ys.length = 0
        · rw [List.eq_nil_of_length_eq_zero hy]; simp
        · have hn : n = 0 := by
            have h1 : min ys.length n = 0 := h0
            omega
          rw [hn] at hxl
          rw [List.eq_nil_of_length_eq_zero hxl, hn]; simp
      rw [this]; exact HO) (Chg.refl W _)
    rw [h0] at hh
    exact wpList_copy_nothing hgd d s T T ho e hu hsz _ _ n cap ys.length c hd hs h0 hh
  · have h1 : 0 < min ys.length n := Nat.pos_of_ne_zero h0
    obtain ⟨ad, rfl, hx⟩ := HR.2.2 (by omega)
    rcases HO.2 with ⟨hv, _⟩ | ⟨g', cap', cur, hv, hb, hg, hnc, hcm, hcs, htake⟩
    · cases hv
    · injection hv with e1 e2 e3
      injection e1 with e1
      injection e1 with e1 _ _
      subst e1
      subst e3
      have hlen : (nums k (ys.take n)).length = Nat.min ys.length n := by
        rw [nums_length, List.length_take]; exact Nat.min_comm _ _
      have hcl : cur.size = cap := by omega
      have hfit : 0 + (nums k (ys.take n)).length ≤ cur.size := by
        rw [hlen]
        have : Nat.min ys.length n ≤ n := Nat.min_le_right _ _
        omega
      have hh := h (W.setRow g (cur.toList.take 0 ++ (nums k (ys.take n) ++ cur.toList.drop (0 + (nums k (ys.take n)).length))).toArray) (by
        refine ⟨?_, .inr ⟨g, cap, (cur.toList.take 0 ++ (nums k (ys.take n) ++ cur.toList.drop (0 + (nums k (ys.take n)).length))).toArray, rfl, hb, setRow_heap W g _ _ e _ hg, hnc, hcm, ?_, ?_⟩⟩
        · simp [nums]; omega
        · simp [nums]; omega
        · have ht : cur.toList.take n = nums k xs := by simpa using htake
          simp only [List.take_zero, List.nil_append, Nat.mul_one, Nat.zero_add, nums_append]
          rw [List.take_append, hlen]
          have hm : Nat.min ys.length n = min ys.length n := rfl
          rw [hm]
          rw [List.take_of_length_le (by rw [hlen]; exact Nat.min_le_right _ _), ← List.drop_take]
          rw [ht]
          congr 1
          simp only [nums, List.map_drop]
          by_cases hyn : ys.length ≤ n
          · rw [Nat.min_eq_left hyn]
          · rw [List.drop_eq_nil_of_le (by simp; omega), List.drop_eq_nil_of_le (by simp; omega)]) (Chg.setRow _)
      refine wpList_copy_own hgd d s T T ho e hu hsz g 0 n cap ad ys.length c hd hs cur e hg (nums k (ys.take n)) hlen (fun j v hj => ?_) hfit (fun u hu => by obtain ⟨x, _, rfl⟩ := List.mem_map.1 hu; rfl) (by rw [← hlen] at hh; exact hh)
      have hj' : j < min ys.length n := by have := (List.getElem?_eq_some_iff.1 hj).1; rw [hlen] at this; exact this
      rw [hx j (by omega), ← hj]
      have a1 : j < ys.length := by omega
      have a2 : j < n := by omega
      simp [nums, List.getD, a1, a2]
end
end Go.Proofs.Ytiabenmgbikllaa.M

-- E9
namespace Go.Proofs.Ytiabenmgbikllaa.M
open Go.RowKit Go.Proofs.YtiabenmgbikllaaW.PrintWords Go.Proofs.YtiabenmgbikllaaW.PrintLast Go.Proofs.YtiabenmgbikllaaW.PrintMore Go.Proofs.Ytiabenmgbikllaa.PAll

/-- Two numbers of many bytes: -1, 0, 1. -/
def cmpL : List Int → List Int → Int
  | [], [] => 0
  | [], _ :: _ => -1
  | _ :: _, [] => 1
  | x :: xs, y :: ys => if x < y then -1 else if x > y then 1 else cmpL xs ys
theorem cmp1 (a b : Int) : cmp_Compare_byte.f a b = some (if a < b then -1 else if a > b then 1 else 0) := by
  simp only [cmp_Compare_byte.f, cmp_isNaN_byte.f, Option.bind_some, bne_self_eq_false, Bool.false_eq_true, if_false]
  split
  · rfl
  · split <;> rfl
theorem cmpL_run (l0 l1 : List Int) (hl : l0.length = l1.length) (hb : l0.length ≤ 1099511627776) (d : Nat) : ∀ (k i : Nat), i + d = l0.length → d < k →
    slices_Compare_byte_byte.l0 k l0 l1 l0 (l0.length : Int) (i : Int) = some (cmpL (l0.drop i) (l1.drop i)) := by
  induction d with
  | zero =>
    intro k i hi hk
    obtain ⟨k, rfl⟩ : ∃ m, k = m + 1 := ⟨k - 1, by omega⟩
    simp only [slices_Compare_byte_byte.l0]
    rw [if_neg (by omega), if_neg (by omega), List.drop_eq_nil_of_le (by omega), List.drop_eq_nil_of_le (by omega)]
    rfl
  | succ d ih =>
    intro k i hi hk
    obtain ⟨k, rfl⟩ : ∃ m, k = m + 1 := ⟨k - 1, by omega⟩
    have h0 : i < l0.length := by omega
    have h1 : i < l1.length := by omega
    simp only [slices_Compare_byte_byte.l0]
    rw [if_pos (by omega), if_pos (by omega), if_pos (by omega), if_neg (by omega), if_pos (by omega), cmp1]
    simp only [Option.bind_some]
    rw [List.drop_eq_getElem_cons h0, List.drop_eq_getElem_cons h1]
    have e0 : rd l0 i = l0[i] := by simp [rd, h0]
    have e1 : rd l1 i = l1[i] := by simp [rd, h1]
    rw [e0, e1]
    simp only [cmpL]
    by_cases ha : l0[i] < l1[i]
    · rw [if_pos ha, if_neg (by decide), if_pos ha]
    · rw [if_neg ha]
      by_cases hb' : l0[i] > l1[i]
      · rw [if_pos hb', if_neg (by decide), if_neg ha, if_pos hb']
      · rw [if_neg hb', if_pos rfl, if_neg ha, if_neg hb']
        have := ih k (i + 1) (by omega) (by omega)
        rw [show wrap64 ((i : Int) + 1) = ((i + 1 : Nat) : Int) from by unfold wrap64; omega]
        exact this
theorem cmpL_f (l0 l1 : List Int) (hl : l0.length = l1.length) (hb : l0.length ≤ 1099511627776) : slices_Compare_byte_byte.f (l0.length + 1) l0 l1 = some (cmpL l0 l1) := by
  have := cmpL_run l0 l1 hl hb l0.length (l0.length + 1) 0 (by omega) (by omega)
  simpa [slices_Compare_byte_byte.f] using this
/-- slices.Compare of two slices that the call owns. -/
theorem compare_calls (w : World) (n : Nat) (A0 A1 : Option Addr) (c0 c1 : Nat) (l0 l1 : List Int) (h0 : w.ownsRow 0 5 1 (.slice A0 n c0) n (nums .u8 l0)) (h1 : w.ownsRow 0 5 1 (.slice A1 n c1) n (nums .u8 l1)) (hb : n ≤ 1099511627776) :
    Calls Try.prog 99 #[.slice A0 n c0, .slice A1 n c1] w fun r w' => r = .returned (.int .i64 (cmpL l0 l1)) ∧ Drawn0 w w' := by
  have e0 : l0.length = n := by have := h0.1; simpa [nums] using this
  have e1 : l1.length = n := by have := h1.1; simpa [nums] using this
  have := slices_Compare_byte_byte.calls (l0.length + 1) A0 c0 l0 A1 c1 l1 (cmpL l0 l1) w (Kd.C_of_reads (d := 0) (readsInt_of.1 (by rw [e0]; exact own_reads' h0))) (by rw [e0]; exact own_le h0)
    (Kd.C_of_reads (d := 0) (readsInt_of.1 (by rw [e1]; exact own_reads' h1))) (by rw [e1]; exact own_le h1) (cmpL_f l0 l1 (by omega) (by omega))
  rwa [e0, e1] at this
end Go.Proofs.Ytiabenmgbikllaa.M
