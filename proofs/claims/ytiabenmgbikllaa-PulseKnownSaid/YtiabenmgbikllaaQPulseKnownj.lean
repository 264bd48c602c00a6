/- Contracts of the program's functions and plain laws for the law PulseKnown, several texts in one (part 10); the program's functions as Lean functions came out of the kit's print. Conditions: each theorem's own. -/
import Derived.Test.YtiabenmgbikllaaQPulseKnowni
-- P8
namespace Go.Proofs.Ytiabenmgbikllaa.M
set_option linter.unusedVariables false
open Go.RowKit Go.Proofs.YtiabenmgbikllaaW.PrintWords Go.Proofs.YtiabenmgbikllaaW.PrintLast Go.Proofs.YtiabenmgbikllaaW.PrintMore Go.Proofs.Ytiabenmgbikllaa.PAll
attribute [local go_sem] max2_int min2_int max_two min_two max_three min_three max_four min_four

/-- Numbers that lie one behind the other in block b from off on. -/
def Rb (w : World) (b off : Nat) (l : List Int) : Prop := ∀ j, j < l.length → w.cell? ⟨b, off + j, none⟩ = some (.int .i64 (rd l j))
theorem Rb.lt {w : World} {b off : Nat} {l : List Int} (h : Rb w b off l) (hn : 0 < l.length) : b < w.heap.size := World.block_lt_of_cell? w ⟨b, off + 0, none⟩ (h 0 hn)
theorem Rb.chg {w w1 : World} {S : Nat → Prop} {b off : Nat} {l : List Int} (h : Rb w b off l) (k : Chg w w1 S) (hb : ¬ S b) : Rb w1 b off l := fun j hj => by
  have h1 := h j hj
  have := k.block b (World.block_lt_of_cell? w _ h1) hb
  simpa [World.cell?, this] using h1
theorem Rb.reads {w : World} {b off : Nat} {l : List Int} (h : Rb w b off l) (hn : l.length ≤ 9223372036854775807) : ReadsInt w .i64 (some ⟨b, off, none⟩) l.length l :=
  ⟨rfl, hn, fun _ => ⟨_, rfl, fun j hj => by
    have e : (Addr.add ⟨b, off, none⟩ j) = ⟨b, off + j, none⟩ := by simp [Addr.add]
    rw [e, h j hj, ← rd_eq]⟩⟩
theorem Rb.drop {w : World} {b off : Nat} {l : List Int} (h : Rb w b off l) (n : Nat) : Rb w b (off + n) (l.drop n) := fun j hj => by
  have := h (n + j) (by simp at hj; omega)
  rw [show off + n + j = off + (n + j) by omega, this, ← rd_eq, ← rd_eq]
  simp [List.getD, List.getElem?_drop]
theorem Rb.take {w : World} {b off : Nat} {l : List Int} (h : Rb w b off l) (n : Nat) : Rb w b off (l.take n) := fun j hj => by
  have hj' : j < n ∧ j < l.length := by simp at hj; omega
  rw [h j hj'.2, ← rd_eq, ← rd_eq]
  simp [List.getD, hj'.1]
theorem count_calls (w : World) (b off c : Nat) (l : List Int) (h : Rb w b off l) (hc : l.length ≤ c) (hn : l.length ≤ 1000000) :
    Calls Try.prog 90 #[.slice (some ⟨b, off, none⟩) l.length c] w fun r w' => r = .returned (.int .i64 (cntL l)) ∧ Chg w w' No :=
  (pulse_count.calls (l.length + 2) _ c l (cntL l) w (Kd.C_of_reads (d := 0) (readsInt_of.1 (h.reads (by omega)))) hc (count_f l hn _ (by omega))).mono
    fun r w' ⟨h1, h2⟩ => ⟨h1, Chg.of_below h2 No⟩

theorem Dj.no (f : Nat → Prop) : Dj f No := fun _ _ h => h
def spreadE : Nat → E → List Int → E
  | 0, e, _ => e
  | n + 1, e, l => spreadE n (spreadE n (e.uint (cntL (l.take (2 ^ n))) (cntL l + 1)) (l.take (2 ^ n))) (l.drop (2 ^ n))
theorem uint_good (e : E) (m : Nat) (h : EGood e m) (v ft : Int) (h0 : 0 ≤ v) (h1 : v < ft) (h3 : ft ≤ 32768) (hm : m ≤ 1000000000) : EGood (e.uint v ft) (m + 3) := by
  unfold E.uint
  split
  · exact h.mono (by omega)
  · exact take_good e m h v (v + 1) ft h0 (by omega) (by omega) h3 hm
theorem cnt_split (l : List Int) (n : Nat) : cntL l = cntL (l.take n) + cntL (l.drop n) := by
  rw [← cntL_app, List.take_append_drop]
theorem spread_good : ∀ (n : Nat) (e : E) (l : List Int) (m : Nat), EGood e m → cntL l ≤ 200 → m + 3 * 2 ^ n ≤ 100000000 → EGood (spreadE n e l) (m + 3 * (2 ^ n - 1))
  | 0, e, l, m, h, _, hm => h.mono (by omega)
  | n + 1, e, l, m, h, hc, hm => by
    have hs := cnt_split l (2 ^ n)
    have r1 := cntL_range (l.take (2 ^ n))
    have r2 := cntL_range (l.drop (2 ^ n))
    have hp : 1 ≤ 2 ^ n := Nat.one_le_two_pow
    rw [Nat.pow_succ] at hm ⊢
    have a1 := uint_good e m h (cntL (l.take (2 ^ n))) (cntL l + 1) r1.1 (by omega) (by omega) (by omega)
    have a2 := spread_good n _ (l.take (2 ^ n)) (m + 3) a1 (by omega) (by omega)
    have a3 := spread_good n _ (l.drop (2 ^ n)) _ a2 (by omega) (by omega)
    exact a3.mono (by omega)
/-- How pulses lie over m places is written. -/
def SpreadAt (g n m : Nat) : Prop := ∀ (w : World) (f : Nat → Prop) (e : E) (b off cap : Nat) (l : List Int) (M : Nat), EncAt w f g e → EGood e M → M + 3 * m ≤ 100000000 → Rb w b off l → l.length = m → ¬ f b → m ≤ cap → cntL l ≤ 16 →
  Calls Try.prog 92 #[.pointer (some ⟨g, 0, none⟩), .slice (some ⟨b, off, none⟩) m cap] w fun r w' => r = .returned (.int .i64 0) ∧ ∃ f', EncAt w' f' g (spreadE n e l) ∧ Chg w w' f ∧ Ext w f f'
set_option maxHeartbeats 1000000 in
set_option maxRecDepth 100000 in
theorem spread_one (g : Nat) : SpreadAt g 0 1 := by
  intro w f e b off cap l M h hg hM hl hn hf hc hcnt
  have HF : Aside0 (∃ f', EncAt w f' g (spreadE 0 e l) ∧ Chg w w f ∧ Ext w f f') := ⟨⟨f, h, Chg.refl _ _, Ext.refl _ _⟩⟩
  clear h hg hl hn
  go_enter Try.func92, Try.ntmps92
  go_wp2_with fail
  go_returns
  exact ⟨rfl, HF.out⟩
set_option maxHeartbeats 400000 in
set_option maxRecDepth 100000 in
theorem spread_step (g n m : Nat) (hm : m = 1 ∨ m = 2 ∨ m = 4 ∨ m = 8) (hn : m = 2 ^ n) (ih : SpreadAt g n m) : SpreadAt g (n + 1) (2 * m) := by
  intro w f e b off cap l M h hg hM hl hlen hf hc hcnt
  have hs := cnt_split l (2 ^ n)
  have r1 := cntL_range (l.take (2 ^ n))
  have r2 := cntL_range (l.drop (2 ^ n))
  have a1 := uint_good e M hg (cntL (l.take (2 ^ n))) (cntL l + 1) r1.1 (by omega) (by omega) (by omega)
  have a2 := spread_good n _ (l.take (2 ^ n)) (M + 3) a1 (by omega) (by rw [← hn]; omega)
  have hbw := hl.lt (by omega)
  have hla : (l.take (2 ^ n)).length = m := by simp; omega
  have hlb : (l.drop (2 ^ n)).length = m := by simp; omega
  have hra := hl.take (2 ^ n)
  have hrb := hl.drop (2 ^ n)
  rw [← hn] at hrb a2
  obtain ⟨A, hA⟩ : ∃ A, A = l.take (2 ^ n) := ⟨_, rfl⟩
  obtain ⟨B, hB⟩ : ∃ B, B = l.drop (2 ^ n) := ⟨_, rfl⟩
  have hB' : l.drop m = B := by rw [hB, hn]
  have hA' : l.take m = A := by rw [hA, hn]
  rw [hB'] at hrb
  rw [hA'] at a2
  rw [← hA] at hs r1 a1 hla hra
  rw [← hB] at hs r2 hlb
  obtain ⟨e1, he1⟩ : ∃ e1, e1 = e.uint (cntL A) (cntL l + 1) := ⟨_, rfl⟩
  rw [← he1] at a1 a2
  obtain ⟨e2, he2⟩ : ∃ e2, e2 = spreadE n e1 A := ⟨_, rfl⟩
  rw [← he2] at a2
  have HE : Aside0 (spreadE (n + 1) e l = spreadE n e2 B) := ⟨by rw [he2, he1, hA, hB]; rfl⟩
  have H12 := Aside0.mk (And.intro he1 he2)
  obtain ⟨ca, hca⟩ : ∃ ca, ca = cntL A := ⟨_, rfl⟩
  obtain ⟨cl, hcl⟩ : ∃ cl, cl = cntL l := ⟨_, rfl⟩
  rw [← hca] at hs r1
  rw [← hcl] at hs hcnt
  have HC := Aside0.mk (And.intro hca (And.intro hcl (And.intro hla (And.intro hlb hlen))))
  have HG := Aside0.mk (And.intro h (And.intro hg (And.intro a1 (And.intro a2 (And.intro hl (And.intro hra hrb))))))
  have HI := Aside0.mk ih
  have hsum : ca ≤ cl := by omega
  have hca0 : 0 ≤ ca := r1.1
  have hbB : cntL B ≤ 16 := by omega
  have hbA : cntL A ≤ 16 := by rw [← hca]; omega
  have HBD := Aside0.mk (And.intro hbA hbB)
  clear h hg a1 a2 hl hra hrb hA hB hA' hB' he1 he2 hca hcl hla hlb hlen hs r1 r2 ih hbA hbB
  rcases hm with rfl | rfl | rfl | rfl
  all_goals
    simp only [Nat.reduceMul] at hc hM HC ⊢
    have hmn := Aside0.mk hn
    clear hn
    go_enter Try.func92, Try.ntmps92
    go_wp2_with fail
    have HA1 := count_calls w b off cap A HG.out.2.2.2.2.2.1 (by rw [HC.out.2.2.1]; omega) (by rw [HC.out.2.2.1]; omega)
    rw [HC.out.2.2.1] at HA1
    with_reducible refine HA1.mono ?_
    clear HA1
    rintro r w1 ⟨rfl, c1⟩
    rw [← HC.out.1]
    have H1 := Aside0.mk c1
    clear c1
    go_wp2_with fail
    have HA2 := count_calls w1 b off cap l (HG.out.2.2.2.2.1.chg H1.out (fun h => h)) (by rw [HC.out.2.2.2.2]; omega) (by rw [HC.out.2.2.2.2]; omega)
    rw [HC.out.2.2.2.2] at HA2
    with_reducible refine HA2.mono ?_
    clear HA2
    rintro r w2 ⟨rfl, c2⟩
    rw [← HC.out.2.1]
    have H2 := Aside0.mk (H1.out.trans c2 (Ext.refl _ _))
    clear c2
    go_wp2_with fail
    with_reducible refine (euint_calls w2 f g e ca (cl + 1) (HG.out.1.chg H2.out (Dj.no f)) HG.out.2.1.ok (by omega) (by omega) (by omega)).mono ?_
    rintro r w3 ⟨rfl, f3, h3, c3, x3⟩
    rw [show e.uint ca (cl + 1) = e1 by rw [H12.out.1, HC.out.1, HC.out.2.1]] at h3
    have c3' : Chg w w3 f := (H2.out.mono (fun _ h => False.elim h) : Chg w w2 f).trans c3 (Ext.refl _ _)
    have x3' : Ext w f f3 := x3.le H2.out.size
    have hf3 : ¬ f3 b := fun hh => (x3' b hh).elim hf (fun h9 => by omega)
    have H3 := Aside0.mk (And.intro h3 (And.intro c3' x3'))
    clear h3 c3 x3 c3' x3'
    go_wp2_with fail
    refine (HI.out w3 f3 e1 b off _ A (M + 3) H3.out.1 HG.out.2.2.1 (by omega) (HG.out.2.2.2.2.2.1.chg H3.out.2.1 hf) HC.out.2.2.1 hf3 (by omega) HBD.out.1).mono ?_
    rintro r w4 ⟨rfl, f4, h4, c4, x4⟩
    rw [← H12.out.2] at h4
    have c4' : Chg w w4 f := H3.out.2.1.trans c4 H3.out.2.2
    have x4' : Ext w f f4 := H3.out.2.2.trans H3.out.2.1.size x4
    have hf4 : ¬ f4 b := fun hh => (x4' b hh).elim hf (fun h9 => by omega)
    have H4 := Aside0.mk (And.intro h4 (And.intro c4' x4'))
    clear h4 c4 x4 c4' x4'
    go_wp2_with fail
    refine (HI.out w4 f4 e2 b _ _ B _ H4.out.1 HG.out.2.2.2.1 (by omega) (HG.out.2.2.2.2.2.2.chg H4.out.2.1 hf) HC.out.2.2.2.1 hf4 (by omega) HBD.out.2).mono ?_
    rintro r w5 ⟨rfl, f5, h5, c5, x5⟩
    rw [← HE.out] at h5
    have H5 := Aside0.mk (And.intro h5 (And.intro (H4.out.2.1.trans c5 H4.out.2.2) (H4.out.2.2.trans H4.out.2.1.size x5)))
    clear h5 c5 x5
    go_wp2_with fail
    go_returns
    exact ⟨rfl, f5, H5.out⟩
theorem spread16 (g : Nat) : SpreadAt g 4 16 :=
  spread_step g 3 8 (by omega) (by decide) (spread_step g 2 4 (by omega) (by decide) (spread_step g 1 2 (by omega) (by decide) (spread_step g 0 1 (by omega) (by decide) (spread_one g))))
end Go.Proofs.Ytiabenmgbikllaa.M

-- P9
namespace Go.Proofs.Ytiabenmgbikllaa.M
set_option linter.unusedVariables false
open Go.RowKit Go.Proofs.YtiabenmgbikllaaW.PrintWords Go.Proofs.YtiabenmgbikllaaW.PrintLast Go.Proofs.YtiabenmgbikllaaW.PrintMore Go.Proofs.Ytiabenmgbikllaa.PAll
attribute [local go_sem] max2_int min2_int max_two min_two max_three min_three max_four min_four

def sgnE (e : E) (x : Int) : E := if x = 0 then e else e.bits (if x < 0 then 1 else 0) 1
def signsE (e : E) (l : List Int) : E := l.foldl sgnE e
theorem sgn_good (e : E) (m : Nat) (h : EGood e m) (x : Int) (hm : m ≤ 1000000000) : EGood (sgnE e x) (m + 24) := by
  unfold sgnE
  split
  · exact h.mono (by omega)
  · exact bits_good e m h _ 1 (by split <;> omega) (by omega) (by omega) hm
theorem signs_good : ∀ (l : List Int) (e : E) (m : Nat), EGood e m → m + 24 * l.length ≤ 100000000 → EGood (signsE e l) (m + 24 * l.length)
  | [], e, m, h, _ => h.mono (by omega)
  | x :: l, e, m, h, hm => by
    simp only [List.length_cons] at hm ⊢
    exact (signs_good l (sgnE e x) (m + 24) (sgn_good e m h x (by omega)) (by omega)).mono (by omega)
theorem signs_snoc (e : E) (l : List Int) (x : Int) : signsE e (l ++ [x]) = sgnE (signsE e l) x := by simp [signsE]
set_option maxHeartbeats 1000000 in
set_option maxRecDepth 100000 in
theorem signs_calls (w : World) (f : Nat → Prop) (g : Nat) (e : E) (b off cap M : Nat) (l : List Int) (h : EncAt w f g e) (hg : EGood e M) (hM : M + 24 * l.length ≤ 100000000) (hl : Rb w b off l) (hn : l.length = 16) (hf : ¬ f b) (hc : 16 ≤ cap) :
    Calls Try.prog 93 #[.pointer (some ⟨g, 0, none⟩), .slice (some ⟨b, off, none⟩) 16 cap] w fun r w' => r = .returned (.int .i64 0) ∧ ∃ f', EncAt w' f' g (signsE e l) ∧ Chg w w' f ∧ Ext w f f' := by
  have hbw := hl.lt (by omega)
  have HS : Aside0 (EncAt w f g (signsE e (l.take 0)) ∧ Chg w w f ∧ Ext w f f) := ⟨h, Chg.refl _ _, Ext.refl _ _⟩
  have HH := Aside0.mk (And.intro hg (And.intro hl hn))
  clear h hg hl hn
  go_enter Try.func93, Try.ntmps93
  go_wp2_with fail
  go_loopg [11] 16 (fun k u11 wr => ∃ (i : Nat) (f' : Nat → Prop), u11 = .int .i64 (i : Int) ∧ k + i = 16 ∧ Aside0 (EncAt wr f' g (signsE e (l.take i)) ∧ Chg w wr f ∧ Ext w f f'))
  case atStart => exact ⟨0, f, rfl, rfl, HS⟩
  case round =>
    clear HS
    obtain ⟨i, f', rfl, hk, HR⟩ := hrel
    by_cases hi : i < 16
    · have hcell := HH.out.2.1.chg HR.out.2.1 hf i (by rw [HH.out.2.2]; exact hi)
      have hlen : (l.take i).length ≤ i := List.length_take_le _ _
      have hG := signs_good (l.take i) e M HH.out.1 (by have := HH.out.2.2; omega)
      obtain ⟨x, hx⟩ : ∃ x, x = rd l i := ⟨_, rfl⟩
      obtain ⟨ei, hei⟩ : ∃ ei, ei = signsE e (l.take i) := ⟨_, rfl⟩
      rw [← hx] at hcell
      rw [← hei] at hG HR
      have HE : Aside0 (signsE e (l.take (i + 1)) = sgnE ei x) := ⟨by rw [take_snoc_rd l i (by rw [HH.out.2.2]; exact hi), signs_snoc, hei, hx]⟩
      have HG := Aside0.mk hG
      clear hx hei hG
      have hrb : ei.rawBits ≤ 1000000000 := by have := HG.out.r; omega
      by_cases h0 : x = 0
      · have HT : Aside0 (EncAt wr f' g (signsE e (l.take (i + 1))) ∧ Chg w wr f ∧ Ext w f f') := ⟨by rw [HE.out]; unfold sgnE; rw [if_pos h0]; exact HR.out⟩
        subst h0
        clear HR HE HG
        go_wp2_with fail
        go_roundg (gk - 1)
        case measure => omega
        case rel => exact ⟨i + 1, f', by go_num, by omega, HT⟩
      · have h0b : (x == 0) = false := by simpa using h0
        have hsg : Aside0 (sgnE ei x = ei.bits (if x < 0 then 1 else 0) 1) := ⟨by unfold sgnE; rw [if_neg h0]⟩
        clear h0
        by_cases hx : x < 0
        all_goals
          have HB := Aside0.mk hsg.out
          first
            | rw [if_pos hx] at HB
            | rw [if_neg hx] at HB
          try (have hxb : decide (x < 0) = false := by simpa using hx)
          go_wp2_with fail
          with_reducible refine (ebits_calls wr f' g ei _ 1 HR.out.1 HG.out.ok HG.out.raw (by omega) (by omega) (by omega) (by decide) hrb).mono ?_
          rintro r w1 ⟨rfl, f1, h1, c1, x1⟩
          have HT : Aside0 (EncAt w1 f1 g (signsE e (l.take (i + 1))) ∧ Chg w w1 f ∧ Ext w f f1) := ⟨by rw [HE.out, HB.out]; exact h1, HR.out.2.1.trans c1 HR.out.2.2, HR.out.2.2.trans HR.out.2.1.size x1⟩
          clear h1 c1 x1 HB hsg HE HG hrb hcell
          go_wp2_with fail
          go_roundg (gk - 1)
          case measure => omega
          case rel => exact ⟨i + 1, f1, by go_num, by omega, HT⟩
    · have HT : Aside0 (∃ f', EncAt wr f' g (signsE e l) ∧ Chg w wr f ∧ Ext w f f') := ⟨f', by
        have := HR.out
        rw [List.take_of_length_le (by rw [HH.out.2.2]; omega)] at this
        exact this⟩
      have hi16 : 16 ≤ i := by omega
      clear HR
      go_wp2_with fail
      go_returns
      exact ⟨rfl, HT.out⟩
end Go.Proofs.Ytiabenmgbikllaa.M

-- PA
namespace Go.Proofs.Ytiabenmgbikllaa.M
set_option linter.unusedVariables false
open Go.RowKit Go.Proofs.YtiabenmgbikllaaW.PrintWords Go.Proofs.YtiabenmgbikllaaW.PrintLast Go.Proofs.YtiabenmgbikllaaW.PrintMore Go.Proofs.Ytiabenmgbikllaa.PAll
attribute [local go_sem] max2_int min2_int max_two min_two max_three min_three max_four min_four

def blockE (e : E) (l : List Int) : E := signsE (spreadE 4 (e.symbol (cntL l) (icdf 5)) l) l
def pulsesE (e : E) (l : List Int) : Nat → E
  | 0 => e
  | i + 1 => blockE (pulsesE e l i) (blk16 l i)
theorem symbol_good (e : E) (m : Nat) (h : EGood e m) (i : Nat) (hi : i < 7) (s : Int) (h0 : 0 ≤ s) (h1 : s < (icdf i).length) (hm : m ≤ 1000000000) : EGood (e.symbol s (icdf i)) (m + 3) := by
  obtain ⟨a, b, c⟩ := (icdf_ok i hi).place s h0 h1
  exact take_good e m h _ _ 256 a b c (by omega) hm
theorem block_good (e : E) (m : Nat) (h : EGood e m) (l : List Int) (hl : l.length = 16) (hc : cntL l ≤ 16) (hm : m ≤ 10000000) : EGood (e.symbol (cntL l) (icdf 5)) (m + 3) ∧ EGood (spreadE 4 (e.symbol (cntL l) (icdf 5)) l) (m + 48) ∧ EGood (blockE e l) (m + 500) := by
  have r := cntL_range l
  have a := symbol_good e m h 5 (by omega) (cntL l) r.1 (by rw [icdf5_len]; omega) (by omega)
  have b := spread_good 4 _ l (m + 3) a (by omega) (by omega)
  have c := signs_good l _ _ b (by omega)
  exact ⟨a, b.mono (by omega), c.mono (by omega)⟩
theorem blk16_length (l : List Int) (i : Nat) (h : 16 * i + 16 ≤ l.length) : (blk16 l i).length = 16 := by unfold blk16; simp; omega
theorem pulses_good (e : E) (m : Nat) (h : EGood e m) (l : List Int) (N : Nat) (hg : GoodAt l N) : ∀ i, i ≤ N → m ≤ 1000000 → EGood (pulsesE e l i) (m + 500 * i)
  | 0, _, _ => h
  | i + 1, hi, hm => by
    have ih := pulses_good e m h l N hg i (by omega) hm
    have hn := hg.n1
    exact (block_good _ _ ih (blk16 l i) (blk16_length l i (by have := hg.len; omega)) (hg.cnt i (by omega)) (by omega)).2.2.mono (by omega)
theorem slice_off (t e : TypeId) {i : TypeInfo} (ht : Try.prog.underlying t = some (.slice e)) (hi : Try.prog.info? e = some i) (hsz : i.size = 1) (b off n c : Nat) (lo hi' : Int) (h0 : 0 ≤ lo) (h1 : lo ≤ hi') (h2 : hi' ≤ c) (h3 : lo < c) (W : World) (hc : c ≤ 9223372036854775807) :
    (Instr.slice t (.slice (some ⟨b, off, none⟩) n c) (some (.int .i64 lo)) (some (.int .i64 hi')) none).run Try.prog W = .ok (.slice (some ⟨b, off + lo.toNat, none⟩) (hi' - lo).toNat (c - lo.toNat)) W := by
  have hel : Try.prog.elem t = e := by simp [Program.elem, ht]
  have hu : Try.prog.underlying t = some (.slice (Try.prog.elem t)) := by rw [hel]; exact ht
  rw [run_slice_lh W t _ n c hu .i64 .i64 lo hi' h0 h1 (by omega), hel]
  have hne : c ≠ lo.toNat := by omega
  simp [sizeOf, typeInfo, hi, hsz, sliced, Result.andThen, hne, Addr.add]
  omega
theorem good_calls (w : World) (v : Value) (l : List Int) (h : Rd w .i64 v l) : Calls Try.prog 39 #[v] w fun r w' => r = .returned (.bool (goodL l)) ∧ Chg w w' No := by
  obtain ⟨A, c, rfl, hc, hr⟩ := h.to
  exact (pulse_Good.calls 100 A c l (goodL l) w (Kd.C_of_reads (d := 0) (readsInt_of.1 hr)) hc (good_f l)).mono fun r w' ⟨h1, h2⟩ => ⟨h1, Chg.of_below h2 No⟩
set_option maxHeartbeats 1000000 in
set_option maxRecDepth 100000 in
theorem write_bad_calls (w : World) (g : Nat) (v : Value) (l : List Int) (h : Rd w .i64 v l) (hb : goodL l = false) :
    Calls Try.prog 40 #[.pointer (some ⟨g, 0, none⟩), v] w fun r w' => r = .returned (.int .i64 1) ∧ Chg w w' No := by
  have HH := Aside0.mk (And.intro h hb)
  clear h hb
  go_enter Try.func40, Try.ntmps40
  go_wp2_with (go_at_call 39; refine (good_calls w v l HH.out.1).mono ?_; rintro r w1 ⟨rfl, c1⟩; rw [HH.out.2]; have H1 := Aside0.mk c1; clear c1)
  go_returns
  exact ⟨rfl, H1.out⟩
set_option maxHeartbeats 1000000 in
set_option maxRecDepth 100000 in
theorem write_calls (w : World) (f : Nat → Prop) (g : Nat) (e : E) (b off c m N : Nat) (l : List Int) (h : EncAt w f g e) (hg : EGood e m) (hm : m ≤ 1000000) (hl : Rb w b off l) (hc : l.length ≤ c) (hcc : c ≤ 9223372036854775807) (hf : ¬ f b) (hgl : goodL l = true) (hN : GoodAt l N) :
    Calls Try.prog 40 #[.pointer (some ⟨g, 0, none⟩), .slice (some ⟨b, off, none⟩) l.length c] w fun r w' => r = .returned (.int .i64 0) ∧ ∃ f', EncAt w' f' g (pulsesE e l N) ∧ Chg w w' f ∧ Ext w f f' := by
  have hn1 := hN.n1
  have hn0 := hN.n0
  obtain ⟨n, hn⟩ : ∃ n, n = l.length := ⟨_, rfl⟩
  have hlen : Aside0 (n = 16 * N ∧ n = l.length) := ⟨by rw [hn]; exact hN.len, hn⟩
  have hbw := hl.lt (by rw [hN.len]; omega)
  have HG := Aside0.mk (good_calls w (.slice (some ⟨b, off, none⟩) l.length c) l (.inr ⟨_, c, rfl, hc, hl.reads (by rw [hN.len]; omega)⟩))
  have HH := Aside0.mk (And.intro h (And.intro hg (And.intro hl (And.intro hN hgl))))
  have hn480 : n ≤ 480 := by rw [hn, hN.len]; omega
  have hn16 : 16 ≤ n := by rw [hn, hN.len]; omega
  rw [← hn] at hc HG ⊢
  clear h hg hl hN hgl hn
  go_enter Try.func40, Try.ntmps40
  go_wp2_with fail
  refine HG.out.mono ?_
  rintro r w1 ⟨rfl, c1⟩
  rw [HH.out.2.2.2.2]
  have HS : Aside0 (EncAt w1 f g (pulsesE e l 0) ∧ Chg w w1 f ∧ Ext w f f) := ⟨HH.out.1.chg c1 (Dj.no f), c1.mono (fun _ h => False.elim h), Ext.refl _ _⟩
  clear c1 HG
  go_wp2_with fail
  go_loopg [5] N (fun k u5 wr => ∃ (i a : Nat) (f' : Nat → Prop), u5 = .int .i64 (a : Int) ∧ k + i = N ∧ Aside0 (a = 16 * i ∧ EncAt wr f' g (pulsesE e l i) ∧ Chg w wr f ∧ Ext w f f'))
  case atStart => exact ⟨0, 0, f, rfl, rfl, ⟨rfl, HS.out⟩⟩
  case round =>
    clear HS
    obtain ⟨i, a, f', rfl, hk, HR⟩ := hrel
    by_cases hi : i < N
    · have ha : a + 16 ≤ n := by have := HR.out.1; have := hlen.out.1; omega
      have hmid : ∀ W : World, (Instr.slice 45 (.slice (some ⟨b, off, none⟩) n c) (some (.int .i64 (a : Int))) (some (.int .i64 ((a : Int) + 16))) none).run Try.prog W = .ok (.slice (some ⟨b, off + a, none⟩) 16 (c - a)) W := by
        intro W
        obtain ⟨i2, hi2, hz⟩ := Option.map_eq_some_iff.1 info2
        simp only [Prod.mk.injEq] at hz
        have := slice_off 45 2 Try.underlying45 hi2 hz.2.1 b off n c (a : Int) ((a : Int) + 16) (by omega) (by omega) (by omega) (by omega) W hcc
        rw [this]
        simp
        omega
      have hG := pulses_good e m HH.out.2.1 l N HH.out.2.2.2.1 i (by omega) hm
      have hcl := HH.out.2.2.2.1.cnt i hi
      have hbl := blk16_length l i (by have := HH.out.2.2.2.1.len; omega)
      have hBG := block_good _ _ hG (blk16 l i) hbl hcl (by omega)
      have hrb : Rb wr b (off + a) (blk16 l i) := by
        have h1 := ((HH.out.2.2.1.chg HR.out.2.2.1 hf).drop (16 * i)).take 16
        rw [← HR.out.1] at h1
        have e9 : (l.drop a).take 16 = blk16 l i := by unfold blk16; rw [HR.out.1]
        rw [e9] at h1
        exact h1
      obtain ⟨bl, hbl'⟩ : ∃ bl, bl = blk16 l i := ⟨_, rfl⟩
      obtain ⟨ei, hei⟩ : ∃ ei, ei = pulsesE e l i := ⟨_, rfl⟩
      have HE : Aside0 (pulsesE e l (i + 1) = blockE ei bl) := ⟨by rw [hei, hbl']; rfl⟩
      rw [← hbl'] at hcl hbl hBG hrb
      rw [← hei] at hG hBG HR
      obtain ⟨cb, hcb⟩ : ∃ cb, cb = cntL bl := ⟨_, rfl⟩
      have hcr := cntL_range bl
      rw [← hcb] at hcl hcr
      have HB := Aside0.mk (And.intro hG (And.intro hBG (And.intro hrb (And.intro hbl hcb))))
      obtain ⟨hcr0, _⟩ := hcr
      have hf' : ¬ f' b := fun hh => (HR.out.2.2.2 b hh).elim hf (fun h9 => by omega)
      clear hG hBG hrb hbl hcb hei hbl'
      go_wp2_with fail
      have HC := count_calls wr b (off + a) (c - a) bl HB.out.2.2.1 (by rw [HB.out.2.2.2.1]; omega) (by rw [HB.out.2.2.2.1]; omega)
      rw [HB.out.2.2.2.1, ← HB.out.2.2.2.2] at HC
      with_reducible refine HC.mono ?_
      clear HC
      rintro r w2 ⟨rfl, c2⟩
      have H2 := Aside0.mk c2
      clear c2
      go_wp2_with fail
      refine (icdf_calls w2 5 (by omega)).mono ?_
      rintro r w3 ⟨v3, rfl, h3⟩
      have H3 := Aside0.mk h3
      clear h3
      go_wp2_with fail
      with_reducible refine (esym_at w2 w3 f' g ei 5 cb v3 (HR.out.2.1.chg H2.out (Dj.no f')) HB.out.1.ok (by omega) H3.out hcr0 (by rw [icdf5_len]; omega)).mono ?_
      rintro r w4 ⟨rfl, f4, h4, c4, x4⟩
      have c4' : Chg w w4 f := (HR.out.2.2.1.trans H2.out (fun _ h => False.elim h)).trans c4 (HR.out.2.2.2)
      have x4' : Ext w f f4 := HR.out.2.2.2.trans (Nat.le_trans HR.out.2.2.1.size H2.out.size) x4
      have hf4 : ¬ f4 b := fun hh => (x4' b hh).elim hf (fun h9 => by omega)
      have hrb4 : Rb w4 b (off + a) bl := (HB.out.2.2.1.chg H2.out (fun h => h)).chg c4 hf'
      have H4 := Aside0.mk (And.intro h4 (And.intro c4' (And.intro x4' hrb4)))
      clear h4 c4 x4 c4' x4' hrb4
      go_wp2_with fail
      refine (spread16 g w4 f4 _ b (off + a) (c - a) bl _ H4.out.1 (by rw [HB.out.2.2.2.2]; exact HB.out.2.1.1) (by omega) H4.out.2.2.2 HB.out.2.2.2.1 hf4 (by omega) (by rw [← HB.out.2.2.2.2]; exact hcl)).mono ?_
      rintro r w5 ⟨rfl, f5, h5, c5, x5⟩
      have c5' : Chg w w5 f := H4.out.2.1.trans c5 H4.out.2.2.1
      have x5' : Ext w f f5 := H4.out.2.2.1.trans H4.out.2.1.size x5
      have hf5 : ¬ f5 b := fun hh => (x5' b hh).elim hf (fun h9 => by omega)
      have H5 := Aside0.mk (And.intro h5 (And.intro c5' (And.intro x5' (H4.out.2.2.2.chg c5 hf4))))
      clear h5 c5 x5 c5' x5'
      go_wp2_with fail
      refine (signs_calls w5 f5 g _ b (off + a) (c - a) _ bl H5.out.1 (by rw [HB.out.2.2.2.2]; exact HB.out.2.1.2.1) (by rw [HB.out.2.2.2.1]; omega) H5.out.2.2.2 HB.out.2.2.2.1 hf5 (by omega)).mono ?_
      rintro r w6 ⟨rfl, f6, h6, c6, x6⟩
      have H6 : Aside0 (a + 16 = 16 * (i + 1) ∧ EncAt w6 f6 g (pulsesE e l (i + 1)) ∧ Chg w w6 f ∧ Ext w f f6) := ⟨by have := HR.out.1; omega, by rw [HE.out]; rw [HB.out.2.2.2.2] at h6; exact h6, H5.out.2.1.trans c6 H5.out.2.2.1, H5.out.2.2.1.trans H5.out.2.1.size x6⟩
      clear h6 c6 x6
      go_wp2_with fail
      go_roundg (gk - 1)
      case measure => omega
      case rel => exact ⟨i + 1, a + 16, f6, by go_num, by omega, H6⟩
    · have HT : Aside0 (∃ f', EncAt wr f' g (pulsesE e l N) ∧ Chg w wr f ∧ Ext w f f') := ⟨f', by
        have := HR.out.2
        rw [show i = N by omega] at this
        exact this⟩
      have han : n ≤ a := by have := HR.out.1; have := hlen.out.1; omega
      clear HR
      go_wp2_with fail
      go_returns
      exact ⟨rfl, HT.out⟩
end Go.Proofs.Ytiabenmgbikllaa.M

-- Q1
namespace Go.Proofs.Ytiabenmgbikllaa.M
set_option linter.unusedVariables false
open Go.RowKit Go.Proofs.YtiabenmgbikllaaW.PrintWords Go.Proofs.YtiabenmgbikllaaW.PrintLast Go.Proofs.YtiabenmgbikllaaW.PrintMore Go.Proofs.Ytiabenmgbikllaa.PAll
attribute [local go_sem] max2_int min2_int max_two min_two max_three min_three max_four min_four

def keyF (ys : List Int) (v : Int) : Int := absI (rd ys v) * 1000 + v
/-- The heap of a run's places lies in block t, the run in block b from off on. -/
structure TopsAt (w : World) (t b off n cap : Nat) (xs at_ : List Int) (av : Value) : Prop where
  blk : w.heap[t]? = some (.cells #[.slice (some ⟨b, off, none⟩) n cap, av] 131 (0, 0))
  own : w.ownsRow 0 3 1 av at_.length (nums .i64 at_)
  row : Blk w b xs
  hn : off + n ≤ xs.length
  hc : n ≤ cap
  ne : t ≠ b
/-- The run. -/
def run_ (xs : List Int) (off n : Nat) : List Int := (xs.drop off).take n
theorem run_rd (xs : List Int) (off n v : Nat) (h : off + n ≤ xs.length) (hv : v < n) : rd (run_ xs off n) v = rd xs ((off + v : Nat) : Int) := by
  rw [← rd_eq, ← rd_eq]
  simp [run_, List.getD, hv, List.getElem?_drop]
theorem run_length (xs : List Int) (off n : Nat) (h : off + n ≤ xs.length) : (run_ xs off n).length = n := by simp [run_]; omega
theorem abs_calls (w : World) (x : Int) (h0 : -1000 ≤ x) (h1 : x ≤ 1000) : Calls Try.prog 128 #[.int .i64 x] w fun r w' => r = .returned (.int .i64 (absI x)) ∧ w' = w := by
  by_cases hx : x < 0
  · have e : absI x = -x := by unfold absI; rw [if_pos hx]
    rw [e]
    go_enter Try.func128, Try.ntmps128
    go_wp2
    go_returns
    exact ⟨by congr 2, rfl⟩
  · have e : absI x = x := by unfold absI; rw [if_neg hx]
    rw [e]
    go_enter Try.func128, Try.ntmps128
    go_wp2
    go_returns
    exact ⟨by congr 2, rfl⟩
set_option maxHeartbeats 400000 in
set_option maxRecDepth 100000 in
theorem tlen_calls (w : World) (t b off n cap : Nat) (xs at_ : List Int) (av : Value) (h : TopsAt w t b off n cap xs at_ av) :
    Calls Try.prog 174 #[.pointer (some ⟨t, 0, none⟩)] w fun r w' => r = .returned (.int .i64 at_.length) ∧ w' = w := by
  obtain ⟨A, c, hv⟩ := own_slice h.own
  have c1 : w.cell? ⟨t, 1, none⟩ = some (.slice A at_.length c) := by rw [← hv]; exact blk_cell h.blk 1
  clear h hv
  go_enter Try.func174, Try.ntmps174
  go_wp2
  go_returns
  exact ⟨rfl, rfl⟩
set_option maxHeartbeats 400000 in
set_option maxRecDepth 100000 in
theorem tless_calls (w : World) (t b off n cap : Nat) (xs at_ : List Int) (av : Value) (h : TopsAt w t b off n cap xs at_ av) (i j : Nat) (hi : i < at_.length) (hj : j < at_.length)
    (ha : ∀ k : Nat, k < at_.length → 0 ≤ rd at_ k ∧ rd at_ k < n) (hx : ∀ k : Nat, k < n → -1000 ≤ rd (run_ xs off n) k ∧ rd (run_ xs off n) k ≤ 1000) (hn : n ≤ 100) :
    Calls Try.prog 175 #[.pointer (some ⟨t, 0, none⟩), .int .i64 i, .int .i64 j] w fun r w' => r = .returned (.bool (decide (keyF (run_ xs off n) (rd at_ j) < keyF (run_ xs off n) (rd at_ i)))) ∧ ∃ m, w' = w.drewN m := by
  obtain ⟨ga, ca, hv⟩ := own_pos h.own (by omega)
  have ho := h.own
  rw [hv] at ho
  have c0 : w.cell? ⟨t, 0, none⟩ = some (.slice (some ⟨b, off, none⟩) n cap) := blk_cell h.blk 0
  have c1 : w.cell? ⟨t, 1, none⟩ = some (.slice (some ⟨ga, 0, none⟩) at_.length ca) := by rw [← hv]; exact blk_cell h.blk 1
  obtain ⟨ai, hai⟩ : ∃ ai : Nat, rd at_ i = ai := ⟨(rd at_ i).toNat, by have := ha i hi; omega⟩
  obtain ⟨aj, haj⟩ : ∃ aj : Nat, rd at_ j = aj := ⟨(rd at_ j).toNat, by have := ha j hj; omega⟩
  have hai' := ha i hi
  have haj' := ha j hj
  have d0 := (own_at ho (i : Int) (by omega) (by omega)).1
  have d1 := (own_at ho (j : Int) (by omega) (by omega)).1
  simp only [Int.toNat_natCast] at d0 d1
  rw [hai] at d0 hai' ⊢
  rw [haj] at d1 haj' ⊢
  have e0 := h.row.cell (off + ai) (by have := h.hn; omega)
  have e1 := h.row.cell (off + aj) (by have := h.hn; omega)
  rw [← run_rd xs off n ai h.hn (by omega)] at e0
  rw [← run_rd xs off n aj h.hn (by omega)] at e1
  have hxi := hx ai (by omega)
  have hxj := hx aj (by omega)
  have hcap := h.hc
  obtain ⟨x, hxx⟩ : ∃ x, x = rd (run_ xs off n) ai := ⟨_, rfl⟩
  obtain ⟨y, hyy⟩ : ∃ y, y = rd (run_ xs off n) aj := ⟨_, rfl⟩
  have HK : Aside0 (keyF (run_ xs off n) (aj : Int) = absI y * 1000 + aj ∧ keyF (run_ xs off n) (ai : Int) = absI x * 1000 + ai) := ⟨by rw [hxx, hyy]; exact ⟨rfl, rfl⟩⟩
  rw [← hxx] at e0 hxi
  rw [← hyy] at e1 hxj
  have hal : at_.length ≤ ca := own_le ho
  rw [HK.out.1, HK.out.2]
  obtain ⟨u, hu⟩ : ∃ u, u = absI x := ⟨_, rfl⟩
  obtain ⟨v, hv'⟩ : ∃ v, v = absI y := ⟨_, rfl⟩
  have hu0 : 0 ≤ u ∧ u ≤ 1000 := by rw [hu]; unfold absI; split <;> omega
  have hv0 : 0 ≤ v ∧ v ≤ 1000 := by rw [hv']; unfold absI; split <;> omega
  have HAX : Aside0 (∀ W, Calls Try.prog 128 #[.int .i64 x] W fun r w' => r = .returned (.int .i64 u) ∧ w' = W) := ⟨fun W => by rw [hu]; exact abs_calls W x hxi.1 hxi.2⟩
  have HAY : Aside0 (∀ W, Calls Try.prog 128 #[.int .i64 y] W fun r w' => r = .returned (.int .i64 v) ∧ w' = W) := ⟨fun W => by rw [hv']; exact abs_calls W y hxj.1 hxj.2⟩
  rw [← hu, ← hv']
  have hb : Aside0 (decide (v * 1000 + (aj : Int) < u * 1000 + ai) = if v < u then true else if u = v then decide ((aj : Int) < ai) else false) := ⟨by
    by_cases h1 : v < u
    · rw [if_pos h1]; simp; omega
    · rw [if_neg h1]
      by_cases h2 : u = v
      · rw [if_pos h2, Bool.eq_iff_iff]; simp; omega
      · rw [if_neg h2]; simp; omega⟩
  rw [hb.out]
  obtain ⟨R, hR⟩ : ∃ R : Bool, R = (if v < u then true else if u = v then decide ((aj : Int) < ai) else false) := ⟨_, rfl⟩
  rw [← hR]
  have HR := Aside0.mk hR
  clear hR
  clear h ho ha hx hai haj hxx hyy hu hv' hb hv
  go_enter Try.func175, Try.ntmps175
  go_wp2_with fail
  go_quiet ((first
    | (go_at_call 128; exact Calls.quiet_of_same (HAX.out _))
    | (go_at_call 128; exact Calls.quiet_of_same (HAY.out _))))
  clear HAX HAY e0 e1 hxi hxj
  by_cases h1 : v < u
  · have HE : Aside0 (R = true) := ⟨by rw [HR.out, if_pos h1]⟩
    have h1b : decide (v < u) = true := by simpa using h1
    go_wp2_with fail
    go_quiet (fail)
    go_wp2_with fail
    go_returns
    exact ⟨by rw [HE.out]; rfl, _, World.drewN_drewN ..⟩
  · have h1b : decide (v < u) = false := by simpa using h1
    by_cases h2 : u = v
    · have HE : Aside0 (R = decide (aj < ai)) := ⟨by rw [HR.out, if_neg h1, if_pos h2]; simp⟩
      subst h2
      go_wp2_with fail
      go_quiet (fail)
      go_wp2_with fail
      go_returns
      exact ⟨by rw [HE.out]; rfl, _, World.drewN_drewN ..⟩
    · have HE : Aside0 (R = false) := ⟨by rw [HR.out, if_neg h1, if_neg h2]⟩
      have h2b : (u == v) = false := by simpa using h2
      clear h2
      go_wp2_with fail
      go_quiet (fail)
      go_wp2_with fail
      go_returns
      exact ⟨by rw [HE.out]; rfl, _, World.drewN_drewN ..⟩
end Go.Proofs.Ytiabenmgbikllaa.M

-- Q2
namespace Go.Proofs.Ytiabenmgbikllaa.M
set_option linter.unusedVariables false
open Go.RowKit Go.Proofs.YtiabenmgbikllaaW.PrintWords Go.Proofs.YtiabenmgbikllaaW.PrintLast Go.Proofs.YtiabenmgbikllaaW.PrintMore Go.Proofs.Ytiabenmgbikllaa.PAll
attribute [local go_sem] max2_int min2_int max_two min_two max_three min_three max_four min_four

theorem TopsAt.chg {w w1 : World} {S : Nat → Prop} {t b off n cap : Nat} {xs at_ : List Int} {av : Value} (h : TopsAt w t b off n cap xs at_ av) (k : Chg w w1 S) (ht : ¬ S t) (hb : ¬ S b) (ha : ∀ c, blkOf av c → ¬ S c) : TopsAt w1 t b off n cap xs at_ av :=
  ⟨k.blk h.blk ht, k.own h.own ha, h.row.chg k hb, h.hn, h.hc, h.ne⟩
theorem TopsAt.atne {w : World} {t b off n cap : Nat} {xs at_ : List Int} {av : Value} (h : TopsAt w t b off n cap xs at_ av) : ¬ blkOf av t ∧ ¬ blkOf av b :=
  ⟨fun hh => own_ne h.own h.blk (by decide) hh.symm, fun hh => own_ne h.own h.row (by decide) hh.symm⟩
set_option maxHeartbeats 1000000 in
set_option maxRecDepth 100000 in
theorem tswap_calls (w : World) (t b off n cap : Nat) (xs at_ : List Int) (av : Value) (h : TopsAt w t b off n cap xs at_ av) (i j : Nat) (hi : i < at_.length) (hj : j < at_.length) (hij : i ≠ j) (hn : at_.length ≤ 1000) :
    Calls Try.prog 177 #[.pointer (some ⟨t, 0, none⟩), .int .i64 i, .int .i64 j] w fun r w' => r = .returned (.tuple #[]) ∧ TopsAt w' t b off n cap xs (swapL at_ i j) av ∧ Chg w w' (blkOf av) := by
  obtain ⟨ga, ca, hv⟩ := own_pos h.own (by omega)
  have ho := h.own
  rw [hv] at ho
  have c1 : w.cell? ⟨t, 1, none⟩ = some (.slice (some ⟨ga, 0, none⟩) at_.length ca) := by rw [← hv]; exact blk_cell h.blk 1
  obtain ⟨d0, z0⟩ := own_at ho (i : Int) (by omega) (by omega)
  obtain ⟨d1, z1⟩ := own_at ho (j : Int) (by omega) (by omega)
  simp only [Int.toNat_natCast] at d0 d1 z0 z1
  obtain ⟨x, hx⟩ : ∃ x, x = rd at_ i := ⟨_, rfl⟩
  obtain ⟨y, hy⟩ : ∃ y, y = rd at_ j := ⟨_, rfl⟩
  rw [← hx] at d0
  rw [← hy] at d1
  have hal : at_.length ≤ ca := own_le ho
  have hgt : ga ≠ t := fun hh => h.atne.1 (by rw [hv, ← hh]; rfl)
  have s1 := (own_store ho (i : Int) y).1
  simp only [Int.toNat_natCast] at s1
  have hl1 : (at_.set i y).length = at_.length := by simp
  rw [← hl1] at s1
  have s2 := (own_store s1 (j : Int) x).1
  simp only [Int.toNat_natCast] at s2
  rw [hl1] at s2
  have HW : Aside0 (TopsAt (((w.setCell ⟨ga, i, none⟩ (.int .i64 y)).setCell ⟨ga, j, none⟩ (.int .i64 x)).drew) t b off n cap xs (swapL at_ i j) av ∧ Chg w (((w.setCell ⟨ga, i, none⟩ (.int .i64 y)).setCell ⟨ga, j, none⟩ (.int .i64 x)).drew) (blkOf av)) := by
    have k : Chg w (((w.setCell ⟨ga, i, none⟩ (.int .i64 y)).setCell ⟨ga, j, none⟩ (.int .i64 x)).drew) (blkOf av) :=
      (((Chg.refl w (blkOf av)).setCell (p := ⟨ga, i, none⟩) (.inl (by rw [hv]; rfl)) _).setCell (p := ⟨ga, j, none⟩) (.inl (by rw [hv]; rfl)) _).drew
    refine ⟨⟨k.blk h.blk h.atne.1, ?_, h.row.chg k h.atne.2, h.hn, h.hc, h.ne⟩, k⟩
    have e : swapL at_ i j = (at_.set i y).set j x := by rw [hx, hy]; rfl
    rw [e, hv, show ((at_.set i y).set j x).length = at_.length by simp]
    exact s2
  clear h ho hv hx hy s1 s2 hl1
  go_enter Try.func177, Try.ntmps177
  go_wp2_with fail
  go_region
  all_goals
    go_wp2_with fail
    go_returns
    exact ⟨rfl, HW.out⟩
set_option maxHeartbeats 1000000 in
set_option maxRecDepth 100000 in
theorem tpush_calls (w : World) (t b off n cap : Nat) (xs at_ : List Int) (av : Value) (h : TopsAt w t b off n cap xs at_ av) (k : Int) (hn : at_.length ≤ 1000) :
    Calls Try.prog 176 #[.pointer (some ⟨t, 0, none⟩), .iface 3 (.int .i64 k)] w fun r w' => r = .returned (.tuple #[]) ∧ ∃ av', TopsAt w' t b off n cap xs (at_ ++ [k]) av' ∧ Chg w w' (fun c => c = t ∨ blkOf av c) ∧ Ext w (blkOf av) (blkOf av') := by
  have c1 : w.cell? ⟨t, 1, none⟩ = some av := blk_cell h.blk 1
  have z1 : w.frozen? ⟨t, 1, none⟩ = false := blk_frozen h.blk 1
  have hts := blk_lt h.blk
  have HO := Aside0.mk h.own
  have HH := Aside0.mk h
  clear h
  have hta : ∀ W : World, (Instr.typeAssert (.iface 3 (.int .i64 k)) 20 3 false).run Try.prog W = .ok (.int .i64 k) W := fun W => by simp [Instr.typeAssert, run_underlying Try.underlying3]
  go_enter Try.func176, Try.ntmps176
  go_wp2_with fail
  go_region_law (
    refine app1s rfl (.tmp 8) (.tmp 11) 32 3 .i64 8 rfl Try.underlying32 info3' (by omega) av at_ k w.heap.size rfl rfl (by go_simp) (own_alloc HO.out _) (by omega) ?_
    intro v1 w1 ho hc hx
    have hc' := (((Chg.refl w (blkOf av)).alloc _).drew).trans hc (Ext.refl _ _)
    have hx' : Ext w (blkOf av) (blkOf v1) := hx.le (by simp)
    have hb1 := hc'.blk HH.out.blk HH.out.atne.1
    have q1 : w1.cell? ⟨t, 1, none⟩ = some av := blk_cell hb1 1
    have qf : w1.frozen? ⟨t, 1, none⟩ = false := blk_frozen hb1 1
    obtain ⟨b1, k1, hv1⟩ := own_pos ho (by simp)
    rw [List.length_append, List.length_singleton] at hv1
    subst hv1
    have HN := Aside0.mk (And.intro ho (And.intro hc' hx'))
    clear hc hx hc' hx' ho c1 z1 HO hb1)
  all_goals
    have HF : Aside0 (TopsAt (w1.setCell ⟨t, 1, none⟩ (.slice (some ⟨b1, 0, none⟩) (at_.length + 1) k1)) t b off n cap xs (at_ ++ [k]) (.slice (some ⟨b1, 0, none⟩) (at_.length + 1) k1) ∧ Chg w (w1.setCell ⟨t, 1, none⟩ (.slice (some ⟨b1, 0, none⟩) (at_.length + 1) k1)) (fun c => c = t ∨ blkOf av c)) := by
      obtain ⟨ho, hc, hx⟩ := HN.out
      have hb1 := hc.blk HH.out.blk HH.out.atne.1
      have hrow := HH.out.row.chg hc HH.out.atne.2
      have n1 : b1 ≠ t := fun hh => own_ne ho hb1 (by decide) (by rw [← hh]; rfl)
      refine ⟨⟨blk_put hb1 1 _ rfl, own_setCell ho (fun hh => n1 (Eq.symm (by simpa [Value.ownBlock] using hh))) _, blk_far hrow (fun hh => HH.out.ne hh.symm) _, HH.out.hn, HH.out.hc, HH.out.ne⟩, ?_⟩
      exact (hc.mono (fun _ h => .inr h)).setCell (p := ⟨t, 1, none⟩) (.inl (.inl rfl)) _
    have HX := Aside0.mk HN.out.2.2
    clear HN
    go_wp2_with fail
    go_returns
    exact ⟨rfl, _, HF.out.1, HF.out.2, HX.out⟩
end Go.Proofs.Ytiabenmgbikllaa.M

-- Q3
namespace Go.Proofs.Ytiabenmgbikllaa.M
set_option linter.unusedVariables false
open Go.RowKit Go.Proofs.YtiabenmgbikllaaW.PrintWords Go.Proofs.YtiabenmgbikllaaW.PrintLast Go.Proofs.YtiabenmgbikllaaW.PrintMore Go.Proofs.Ytiabenmgbikllaa.PAll
attribute [local go_sem] max2_int min2_int max_two min_two max_three min_three max_four min_four

/-- Places of a run of n. -/
def InR (at_ : List Int) (n : Nat) : Prop := ∀ k : Nat, k < at_.length → 0 ≤ rd at_ k ∧ rd at_ k < n
def InX (ys : List Int) (n : Nat) : Prop := ∀ k : Nat, k < n → -1000 ≤ rd ys k ∧ rd ys k ≤ 1000
theorem InR.swap {at_ : List Int} {n : Nat} (h : InR at_ n) (i j : Nat) (hi : i < at_.length) (hj : j < at_.length) : InR (swapL at_ i j) n := by
  intro k hk
  rw [swapL_length] at hk
  rw [rd_swap _ _ _ _ hi hj]
  split
  · exact h i hi
  · split
    · exact h j hj
    · exact h k hk
theorem tlessR_calls (w : World) (t b off n cap : Nat) (xs at_ : List Int) (av : Value) (h : TopsAt w t b off n cap xs at_ av) (i j : Nat) (hi : i < at_.length) (hj : j < at_.length) (ha : InR at_ n) (hx : InX (run_ xs off n) n) (hn : n ≤ 100) :
    Calls Try.prog 175 #[.pointer (some ⟨t, 0, none⟩), .int .i64 i, .int .i64 j] w fun r w' => r = .returned (.bool (decide (keyF (run_ xs off n) (rd at_ j) < keyF (run_ xs off n) (rd at_ i)))) ∧ ∃ m, w' = w.drewN m :=
  tless_calls w t b off n cap xs at_ av h i j hi hj ha hx hn
theorem TopsAt.drew {w : World} {t b off n cap : Nat} {xs at_ : List Int} {av : Value} (h : TopsAt w t b off n cap xs at_ av) (m : Nat) : TopsAt (w.drewN m) t b off n cap xs at_ av :=
  h.chg ((Chg.refl w No).drewN m) (fun h => h) (fun h => h) (fun _ _ h => h)
set_option maxHeartbeats 400000 in
set_option maxRecDepth 100000 in
theorem up_calls (w : World) (t b off n cap : Nat) (xs at_ : List Int) (av : Value) (h : TopsAt w t b off n cap xs at_ av) (j : Nat) (hj : j < at_.length) (ha : InR at_ n) (hx : InX (run_ xs off n) n) (hn : n ≤ 100) (hl : at_.length ≤ 100) :
    Calls Try.prog 148 #[.iface 129 (.pointer (some ⟨t, 0, none⟩)), .int .i64 j] w fun r w' => r = .returned (.tuple #[]) ∧ TopsAt w' t b off n cap xs (upL (keyF (run_ xs off n)) j at_ j) av ∧ Chg w w' (blkOf av) := by
  obtain ⟨R, hR⟩ : ∃ R, R = upL (keyF (run_ xs off n)) j at_ j := ⟨_, rfl⟩
  obtain ⟨M, hM⟩ : ∃ M, M = at_.length := ⟨_, rfl⟩
  have HS : Aside0 (TopsAt w t b off n cap xs at_ av ∧ InR at_ n ∧ at_.length = M ∧ Chg w w (blkOf av) ∧ upL (keyF (run_ xs off n)) j at_ j = R) := ⟨h, ha, hM.symm, Chg.refl _ _, hR.symm⟩
  rw [← hR]
  rw [← hM] at hj hl
  have HX := Aside0.mk hx
  clear h ha hx hR hM
  go_enter Try.func148, Try.ntmps148
  go_wp2_with fail
  go_loopg [1] j (fun k u1 wr => ∃ (i : Nat) (l : List Int), u1 = .int .i64 (i : Int) ∧ i ≤ k ∧ i < M ∧ Aside0 (TopsAt wr t b off n cap xs l av ∧ InR l n ∧ l.length = M ∧ Chg w wr (blkOf av) ∧ upL (keyF (run_ xs off n)) k l i = R))
  case atStart => exact ⟨j, at_, rfl, Nat.le_refl _, hj, HS⟩
  case round =>
    clear HS
    obtain ⟨i, l, rfl, hik, hil, HR⟩ := hrel
    by_cases hz : i = 0
    · have HF : Aside0 (TopsAt wr t b off n cap xs R av ∧ Chg w wr (blkOf av)) := by
        obtain ⟨a1, a2, a3, a4, a5⟩ := HR.out
        have e : upL (keyF (run_ xs off n)) gk l i = l := by
          cases gk with
          | zero => rfl
          | succ k => unfold upL; rw [if_pos (.inl (by rw [hz]; rfl))]
        rw [e] at a5
        rw [← a5]
        exact ⟨a1, a4⟩
      subst hz
      clear HR
      go_wp2_with fail
      go_returns
      exact ⟨rfl, HF.out⟩
    · obtain ⟨p, hp⟩ : ∃ p, p = par i := ⟨_, rfl⟩
      have hpi : ((i : Int) - 1) / 2 = (p : Int) := by rw [hp]; unfold par; omega
      have hpl : p < i := by rw [hp]; exact par_lt i (by omega)
      have hne : ((p : Int) == (i : Int)) = false := by simp; omega
      obtain ⟨k, hk⟩ : ∃ k, gk = k + 1 := ⟨gk - 1, by omega⟩
      have HP := Aside0.mk (And.intro hp hk)
      clear hp hk
      by_cases hless : keyF (run_ xs off n) (rd l p) < keyF (run_ xs off n) (rd l i)
      · have HD : Aside0 (decide (keyF (run_ xs off n) (rd l p) < keyF (run_ xs off n) (rd l i)) = true ∧ upL (keyF (run_ xs off n)) gk l i = upL (keyF (run_ xs off n)) (gk - 1) (swapL l p i) p) := ⟨by simpa using hless, by
          rw [HP.out.2]
          show (if par i = i ∨ _ then l else upL _ k (swapL l (par i) i) (par i)) = _
          rw [← HP.out.1, if_neg (by simp only [not_or, Classical.not_not]; exact ⟨by omega, hless⟩)]
          rfl⟩
        clear hless
        go_wp2_with fail
        with_reducible refine (tlessR_calls wr t b off n cap xs l av HR.out.1 i p (by rw [HR.out.2.2.1]; exact hil) (by rw [HR.out.2.2.1]; omega) HR.out.2.1 HX.out hn).mono ?_
        rintro r w1 ⟨rfl, m, rfl⟩
        rw [HD.out.1]
        go_wp2_with fail
        with_reducible refine (tswap_calls (wr.drewN m) t b off n cap xs l av (HR.out.1.drew m) p i (by rw [HR.out.2.2.1]; omega) (by rw [HR.out.2.2.1]; exact hil) (by omega) (by rw [HR.out.2.2.1]; omega)).mono ?_
        rintro r w2 ⟨rfl, h2, c2⟩
        have HT : Aside0 (TopsAt w2 t b off n cap xs (swapL l p i) av ∧ InR (swapL l p i) n ∧ (swapL l p i).length = M ∧ Chg w w2 (blkOf av) ∧ upL (keyF (run_ xs off n)) (gk - 1) (swapL l p i) p = R) :=
          ⟨h2, HR.out.2.1.swap p i (by rw [HR.out.2.2.1]; omega) (by rw [HR.out.2.2.1]; exact hil), by rw [swapL_length]; exact HR.out.2.2.1, (HR.out.2.2.2.1.drewN m).trans c2 (Ext.refl _ _), by rw [← HD.out.2]; exact HR.out.2.2.2.2⟩
        clear h2 c2 HD
        go_wp2_with fail
        go_roundg (gk - 1)
        case measure => have := HP.out.2; omega
        case rel => exact ⟨p, swapL l p i, rfl, by have := HP.out.2; omega, by omega, HT⟩
      · have HD : Aside0 (decide (keyF (run_ xs off n) (rd l p) < keyF (run_ xs off n) (rd l i)) = false ∧ upL (keyF (run_ xs off n)) gk l i = l) := ⟨by simpa using hless, by
          rw [HP.out.2]
          show (if par i = i ∨ _ then l else upL _ k (swapL l (par i) i) (par i)) = _
          rw [← HP.out.1, if_pos (.inr hless)]⟩
        clear hless
        go_wp2_with fail
        with_reducible refine (tlessR_calls wr t b off n cap xs l av HR.out.1 i p (by rw [HR.out.2.2.1]; exact hil) (by rw [HR.out.2.2.1]; omega) HR.out.2.1 HX.out hn).mono ?_
        rintro r w1 ⟨rfl, m, rfl⟩
        rw [HD.out.1]
        have HF : Aside0 (TopsAt (wr.drewN m) t b off n cap xs R av ∧ Chg w (wr.drewN m) (blkOf av)) := by
          obtain ⟨a1, a2, a3, a4, a5⟩ := HR.out
          rw [HD.out.2] at a5
          rw [← a5]
          exact ⟨a1.chg ((Chg.refl wr No).drewN m) (fun h => h) (fun h => h) (fun _ _ h => h), a4.drewN m⟩
        clear HR HD
        go_wp2_with fail
        go_returns
        exact ⟨rfl, HF.out⟩
end Go.Proofs.Ytiabenmgbikllaa.M

-- Q4
namespace Go.Proofs.Ytiabenmgbikllaa.M
set_option linter.unusedVariables false
open Go.RowKit Go.Proofs.YtiabenmgbikllaaW.PrintWords Go.Proofs.YtiabenmgbikllaaW.PrintLast Go.Proofs.YtiabenmgbikllaaW.PrintMore Go.Proofs.Ytiabenmgbikllaa.PAll
attribute [local go_sem] max2_int min2_int max_two min_two max_three min_three max_four min_four

theorem InR.snoc {at_ : List Int} {n : Nat} (h : InR at_ n) (k : Int) (k0 : 0 ≤ k) (k1 : k < n) : InR (at_ ++ [k]) n := by
  intro i hi
  rw [← rd_eq]
  simp only [List.length_append, List.length_cons, List.length_nil] at hi
  by_cases hc : i < at_.length
  · have := h i hc
    rw [← rd_eq] at this
    simpa [List.getD, List.getElem?_append_left hc] using this
  · have e : i = at_.length := by omega
    subst e
    simp [List.getD]
    exact ⟨k0, k1⟩
set_option maxHeartbeats 400000 in
set_option maxRecDepth 100000 in
theorem hpush_calls (w : World) (t b off n cap : Nat) (xs at_ : List Int) (av : Value) (h : TopsAt w t b off n cap xs at_ av) (k : Int) (k0 : 0 ≤ k) (k1 : k < n) (ha : InR at_ n) (hx : InX (run_ xs off n) n) (hn : n ≤ 100) (hl : at_.length ≤ 90) :
    Calls Try.prog 131 #[.iface 129 (.pointer (some ⟨t, 0, none⟩)), .iface 3 (.int .i64 k)] w fun r w' => r = .returned (.tuple #[]) ∧ ∃ av', TopsAt w' t b off n cap xs (upL (keyF (run_ xs off n)) at_.length (at_ ++ [k]) at_.length) av' ∧ Chg w w' (fun c => c = t ∨ blkOf av c) ∧ Ext w (blkOf av) (blkOf av') := by
  have HH := Aside0.mk (And.intro h (And.intro ha hx))
  clear h ha hx
  obtain ⟨M, hM⟩ : ∃ M, M = at_.length := ⟨_, rfl⟩
  have HM := Aside0.mk hM
  rw [← hM] at hl ⊢
  clear hM
  go_enter Try.func131, Try.ntmps131
  go_wp2_with fail
  with_reducible refine (tpush_calls w t b off n cap xs at_ av HH.out.1 k (by have := HM.out; omega)).mono ?_
  rintro r w1 ⟨rfl, av1, h1, c1, x1⟩
  have H1 := Aside0.mk (And.intro h1 (And.intro c1 x1))
  clear h1 c1 x1
  go_wp2_with fail
  have HLn := tlen_calls w1 t b off n cap xs (at_ ++ [k]) av1 H1.out.1
  rw [show (((at_ ++ [k]).length : Nat) : Int) = (M : Int) + 1 by have := HM.out; simp; omega] at HLn
  with_reducible refine HLn.mono ?_
  clear HLn
  rintro r w2 ⟨rfl, rfl⟩
  go_wp2_with fail
  refine (up_calls w2 t b off n cap xs (at_ ++ [k]) av1 H1.out.1 M (by have := HM.out; simp; omega) (HH.out.2.1.snoc k k0 k1) HH.out.2.2 hn (by have := HM.out; simp; omega)).mono ?_
  rintro r w3 ⟨rfl, h3, c3⟩
  have H3 := Aside0.mk (And.intro h3 c3)
  clear h3 c3
  go_wp2_with fail
  go_returns
  exact ⟨rfl, av1, H3.out.1, H1.out.2.1.trans H3.out.2 (fun c hc => (H1.out.2.2 c hc).elim (fun h => .inl (.inr h)) .inr), H1.out.2.2⟩
set_option maxHeartbeats 1000000 in
set_option maxRecDepth 100000 in
theorem down_calls (w : World) (t b off n cap : Nat) (xs at_ : List Int) (av : Value) (h : TopsAt w t b off n cap xs at_ av) (i0 m : Nat) (hm : m = at_.length) (hj : i0 < m) (ha : InR at_ n) (hx : InX (run_ xs off n) n) (hn : n ≤ 100) (hl : m ≤ 100) :
    Calls Try.prog 149 #[.iface 129 (.pointer (some ⟨t, 0, none⟩)), .int .i64 i0, .int .i64 m] w fun r w' => r = .returned (.bool (decide (i0 < (downL (keyF (run_ xs off n)) m m at_ i0).2))) ∧ TopsAt w' t b off n cap xs (downL (keyF (run_ xs off n)) m m at_ i0).1 av ∧ Chg w w' (blkOf av) := by
  obtain ⟨R, hR⟩ : ∃ R, R = downL (keyF (run_ xs off n)) m m at_ i0 := ⟨_, rfl⟩
  have HS : Aside0 (TopsAt w t b off n cap xs at_ av ∧ InR at_ n ∧ at_.length = m ∧ Chg w w (blkOf av) ∧ downL (keyF (run_ xs off n)) m m at_ i0 = R) := ⟨h, ha, hm.symm, Chg.refl _ _, hR.symm⟩
  rw [← hR]
  have HX := Aside0.mk hx
  clear h ha hx hR hm
  go_enter Try.func149, Try.ntmps149
  go_wp2_with fail
  go_loopg [7] m (fun k u7 wr => ∃ (i : Nat) (l : List Int), u7 = .int .i64 (i : Int) ∧ m ≤ i + k ∧ i < m ∧ Aside0 (TopsAt wr t b off n cap xs l av ∧ InR l n ∧ l.length = m ∧ Chg w wr (blkOf av) ∧ downL (keyF (run_ xs off n)) m k l i = R))
  case atStart => exact ⟨i0, at_, rfl, by omega, hj, HS⟩
  case round =>
    clear HS
    obtain ⟨i, l, rfl, hik, hil, HR⟩ := hrel
    obtain ⟨k, hk⟩ : ∃ k, gk = k + 1 := ⟨gk - 1, by omega⟩
    have HK := Aside0.mk hk
    clear hk
    obtain ⟨j1, hj1⟩ : ∃ j1 : Nat, j1 = 2 * i + 1 := ⟨_, rfl⟩
    have e1 : 2 * (i : Int) + 1 = (j1 : Int) := by omega
    have HJ := Aside0.mk hj1
    clear hj1
    by_cases hend : m ≤ j1
    · have HF : Aside0 (TopsAt wr t b off n cap xs R.1 av ∧ Chg w wr (blkOf av) ∧ R.2 = i) := by
        obtain ⟨a1, a2, a3, a4, a5⟩ := HR.out
        rw [HK.out] at a5
        have e : downL (keyF (run_ xs off n)) m (k + 1) l i = (l, i) := by show (if m ≤ 2 * i + 1 then _ else _) = _; rw [if_pos (by have := HJ.out; omega)]
        rw [e] at a5
        rw [← a5]
        exact ⟨a1, a4, rfl⟩
      clear HR
      go_wp2_with fail
      go_returns
      exact ⟨by rw [HF.out.2.2]; simp, HF.out.1, HF.out.2.1⟩
    · have hj1m : j1 < m := by omega
      obtain ⟨j2, hj2⟩ : ∃ j2 : Nat, j2 = j1 + 1 := ⟨_, rfl⟩
      have e2 : (j1 : Int) + 1 = (j2 : Int) := by omega
      have HJ2 := Aside0.mk hj2
      clear hj2 hend
      have HD : Aside0 (downL (keyF (run_ xs off n)) m gk l i = if ¬ keyF (run_ xs off n) (rd l i) < keyF (run_ xs off n) (rd l (big (keyF (run_ xs off n)) l m i : Nat)) then (l, i) else downL (keyF (run_ xs off n)) m (gk - 1) (swapL l i (big (keyF (run_ xs off n)) l m i)) (big (keyF (run_ xs off n)) l m i)) := ⟨by
        rw [HK.out]
        show (if m ≤ 2 * i + 1 then _ else _) = _
        rw [if_neg (by have := HJ.out; omega)]
        rfl⟩
      by_cases h2m : j2 < m
      · by_cases hless : keyF (run_ xs off n) (rd l j1) < keyF (run_ xs off n) (rd l j2)
        · have HB : Aside0 (big (keyF (run_ xs off n)) l m i = j2 ∧ decide (keyF (run_ xs off n) (rd l j1) < keyF (run_ xs off n) (rd l j2)) = true) := ⟨by
            unfold big
            have q1 := HJ.out
            have q2 := HJ2.out
            rw [show 2 * i + 2 = j2 by omega, show 2 * i + 1 = j1 by omega, if_pos ⟨h2m, hless⟩], by simpa using hless⟩
          clear hless
          go_wp2_with fail
          with_reducible refine (tlessR_calls wr t b off n cap xs l av HR.out.1 j2 j1 (by rw [HR.out.2.2.1]; exact h2m) (by rw [HR.out.2.2.1]; exact hj1m) HR.out.2.1 HX.out hn).mono ?_
          rintro r w1 ⟨rfl, mm, rfl⟩
          rw [HB.out.2]
          obtain ⟨wq, hwq⟩ : ∃ wq, wq = wr.drewN mm := ⟨_, rfl⟩
          have HQ : Aside0 (TopsAt wq t b off n cap xs l av ∧ Chg w wq (blkOf av)) := ⟨by rw [hwq]; exact ⟨HR.out.1.drew mm, HR.out.2.2.2.1.drewN mm⟩⟩
          rw [← hwq]
          clear hwq
          by_cases hl2 : keyF (run_ xs off n) (rd l i) < keyF (run_ xs off n) (rd l j2)
          · have HE : Aside0 (decide (keyF (run_ xs off n) (rd l i) < keyF (run_ xs off n) (rd l j2)) = true ∧ downL (keyF (run_ xs off n)) m (gk - 1) (swapL l i j2) j2 = R) := ⟨by simpa using hl2, by
              rw [← HR.out.2.2.2.2, HD.out, HB.out.1, if_neg (by simpa using hl2)]⟩
            clear hl2
            go_wp2_with fail
            with_reducible refine (tlessR_calls wq t b off n cap xs l av HQ.out.1 j2 i (by rw [HR.out.2.2.1]; exact h2m) (by rw [HR.out.2.2.1]; exact hil) HR.out.2.1 HX.out hn).mono ?_
            rintro r w2 ⟨rfl, mm2, rfl⟩
            rw [HE.out.1]
            go_wp2_with fail
            with_reducible refine (tswap_calls (wq.drewN mm2) t b off n cap xs l av (HQ.out.1.drew mm2) i j2 (by rw [HR.out.2.2.1]; exact hil) (by rw [HR.out.2.2.1]; exact h2m) (by have := HJ.out; have := HJ2.out; omega) (by rw [HR.out.2.2.1]; omega)).mono ?_
            rintro r w3 ⟨rfl, h3, c3⟩
            have HT : Aside0 (TopsAt w3 t b off n cap xs (swapL l i j2) av ∧ InR (swapL l i j2) n ∧ (swapL l i j2).length = m ∧ Chg w w3 (blkOf av) ∧ downL (keyF (run_ xs off n)) m (gk - 1) (swapL l i j2) j2 = R) :=
              ⟨h3, HR.out.2.1.swap i j2 (by rw [HR.out.2.2.1]; exact hil) (by rw [HR.out.2.2.1]; exact h2m), by rw [swapL_length]; exact HR.out.2.2.1, (HQ.out.2.drewN mm2).trans c3 (Ext.refl _ _), HE.out.2⟩
            clear h3 c3 HE
            go_wp2_with fail
            go_roundg (gk - 1)
            case measure => have := HK.out; omega
            case rel => exact ⟨j2, swapL l i j2, rfl, by have := HK.out; have := HJ.out; have := HJ2.out; omega, h2m, HT⟩
          · have HE : Aside0 (decide (keyF (run_ xs off n) (rd l i) < keyF (run_ xs off n) (rd l j2)) = false ∧ (l, i) = R) := ⟨by simpa using hl2, by
              rw [← HR.out.2.2.2.2, HD.out, HB.out.1, if_pos (by simpa using hl2)]⟩
            clear hl2
            go_wp2_with fail
            with_reducible refine (tlessR_calls wq t b off n cap xs l av HQ.out.1 j2 i (by rw [HR.out.2.2.1]; exact h2m) (by rw [HR.out.2.2.1]; exact hil) HR.out.2.1 HX.out hn).mono ?_
            rintro r w2 ⟨rfl, mm2, rfl⟩
            rw [HE.out.1]
            have HF : Aside0 (TopsAt (wq.drewN mm2) t b off n cap xs R.1 av ∧ Chg w (wq.drewN mm2) (blkOf av) ∧ R.2 = i) := by
              rw [← HE.out.2]
              exact ⟨HQ.out.1.drew mm2, HQ.out.2.drewN mm2, rfl⟩
            clear HR HE HQ
            go_wp2_with fail
            go_returns
            exact ⟨by rw [HF.out.2.2]; simp, HF.out.1, HF.out.2.1⟩
        · have HB : Aside0 (big (keyF (run_ xs off n)) l m i = j1 ∧ decide (keyF (run_ xs off n) (rd l j1) < keyF (run_ xs off n) (rd l j2)) = false) := ⟨by
            unfold big
            have q1 := HJ.out
            have q2 := HJ2.out
            rw [show 2 * i + 2 = j2 by omega, show 2 * i + 1 = j1 by omega, if_neg (fun hh => hless hh.2)], by simpa using hless⟩
          clear hless
          go_wp2_with fail
          with_reducible refine (tlessR_calls wr t b off n cap xs l av HR.out.1 j2 j1 (by rw [HR.out.2.2.1]; exact h2m) (by rw [HR.out.2.2.1]; exact hj1m) HR.out.2.1 HX.out hn).mono ?_
          rintro r w1 ⟨rfl, mm, rfl⟩
          rw [HB.out.2]
          obtain ⟨wq, hwq⟩ : ∃ wq, wq = wr.drewN mm := ⟨_, rfl⟩
          have HQ : Aside0 (TopsAt wq t b off n cap xs l av ∧ Chg w wq (blkOf av)) := ⟨by rw [hwq]; exact ⟨HR.out.1.drew mm, HR.out.2.2.2.1.drewN mm⟩⟩
          rw [← hwq]
          clear hwq
          by_cases hl2 : keyF (run_ xs off n) (rd l i) < keyF (run_ xs off n) (rd l j1)
          · have HE : Aside0 (decide (keyF (run_ xs off n) (rd l i) < keyF (run_ xs off n) (rd l j1)) = true ∧ downL (keyF (run_ xs off n)) m (gk - 1) (swapL l i j1) j1 = R) := ⟨by simpa using hl2, by
              rw [← HR.out.2.2.2.2, HD.out, HB.out.1, if_neg (by simpa using hl2)]⟩
            clear hl2
            go_wp2_with fail
            with_reducible refine (tlessR_calls wq t b off n cap xs l av HQ.out.1 j1 i (by rw [HR.out.2.2.1]; exact hj1m) (by rw [HR.out.2.2.1]; exact hil) HR.out.2.1 HX.out hn).mono ?_
            rintro r w2 ⟨rfl, mm2, rfl⟩
            rw [HE.out.1]
            go_wp2_with fail
            with_reducible refine (tswap_calls (wq.drewN mm2) t b off n cap xs l av (HQ.out.1.drew mm2) i j1 (by rw [HR.out.2.2.1]; exact hil) (by rw [HR.out.2.2.1]; exact hj1m) (by have := HJ.out; have := HJ2.out; omega) (by rw [HR.out.2.2.1]; omega)).mono ?_
            rintro r w3 ⟨rfl, h3, c3⟩
            have HT : Aside0 (TopsAt w3 t b off n cap xs (swapL l i j1) av ∧ InR (swapL l i j1) n ∧ (swapL l i j1).length = m ∧ Chg w w3 (blkOf av) ∧ downL (keyF (run_ xs off n)) m (gk - 1) (swapL l i j1) j1 = R) :=
              ⟨h3, HR.out.2.1.swap i j1 (by rw [HR.out.2.2.1]; exact hil) (by rw [HR.out.2.2.1]; exact hj1m), by rw [swapL_length]; exact HR.out.2.2.1, (HQ.out.2.drewN mm2).trans c3 (Ext.refl _ _), HE.out.2⟩
            clear h3 c3 HE
            go_wp2_with fail
            go_roundg (gk - 1)
            case measure => have := HK.out; omega
            case rel => exact ⟨j1, swapL l i j1, rfl, by have := HK.out; have := HJ.out; have := HJ2.out; omega, hj1m, HT⟩
          · have HE : Aside0 (decide (keyF (run_ xs off n) (rd l i) < keyF (run_ xs off n) (rd l j1)) = false ∧ (l, i) = R) := ⟨by simpa using hl2, by
              rw [← HR.out.2.2.2.2, HD.out, HB.out.1, if_pos (by simpa using hl2)]⟩
            clear hl2
            go_wp2_with fail
            with_reducible refine (tlessR_calls wq t b off n cap xs l av HQ.out.1 j1 i (by rw [HR.out.2.2.1]; exact hj1m) (by rw [HR.out.2.2.1]; exact hil) HR.out.2.1 HX.out hn).mono ?_
            rintro r w2 ⟨rfl, mm2, rfl⟩
            rw [HE.out.1]
            have HF : Aside0 (TopsAt (wq.drewN mm2) t b off n cap xs R.1 av ∧ Chg w (wq.drewN mm2) (blkOf av) ∧ R.2 = i) := by
              rw [← HE.out.2]
              exact ⟨HQ.out.1.drew mm2, HQ.out.2.drewN mm2, rfl⟩
            clear HR HE HQ
            go_wp2_with fail
            go_returns
            exact ⟨by rw [HF.out.2.2]; simp, HF.out.1, HF.out.2.1⟩
      · have HB : Aside0 (big (keyF (run_ xs off n)) l m i = j1 ∧ True) := ⟨by
            unfold big
            have q1 := HJ.out
            have q2 := HJ2.out
            rw [show 2 * i + 2 = j2 by omega, show 2 * i + 1 = j1 by omega, if_neg (fun hh => h2m hh.1)], trivial⟩
        have h2b : decide (j2 < m) = false := by simpa using h2m
        obtain ⟨wq, rfl⟩ : ∃ wq, wq = wr := ⟨_, rfl⟩
        have HQ : Aside0 (TopsAt wq t b off n cap xs l av ∧ Chg w wq (blkOf av)) := ⟨HR.out.1, HR.out.2.2.2.1⟩
        by_cases hl2 : keyF (run_ xs off n) (rd l i) < keyF (run_ xs off n) (rd l j1)
        · have HE : Aside0 (decide (keyF (run_ xs off n) (rd l i) < keyF (run_ xs off n) (rd l j1)) = true ∧ downL (keyF (run_ xs off n)) m (gk - 1) (swapL l i j1) j1 = R) := ⟨by simpa using hl2, by
            rw [← HR.out.2.2.2.2, HD.out, HB.out.1, if_neg (by simpa using hl2)]⟩
          clear hl2
          go_wp2_with fail
          with_reducible refine (tlessR_calls wq t b off n cap xs l av HQ.out.1 j1 i (by rw [HR.out.2.2.1]; exact hj1m) (by rw [HR.out.2.2.1]; exact hil) HR.out.2.1 HX.out hn).mono ?_
          rintro r w2 ⟨rfl, mm2, rfl⟩
          rw [HE.out.1]
          go_wp2_with fail
          with_reducible refine (tswap_calls (wq.drewN mm2) t b off n cap xs l av (HQ.out.1.drew mm2) i j1 (by rw [HR.out.2.2.1]; exact hil) (by rw [HR.out.2.2.1]; exact hj1m) (by have := HJ.out; have := HJ2.out; omega) (by rw [HR.out.2.2.1]; omega)).mono ?_
          rintro r w3 ⟨rfl, h3, c3⟩
          have HT : Aside0 (TopsAt w3 t b off n cap xs (swapL l i j1) av ∧ InR (swapL l i j1) n ∧ (swapL l i j1).length = m ∧ Chg w w3 (blkOf av) ∧ downL (keyF (run_ xs off n)) m (gk - 1) (swapL l i j1) j1 = R) :=
            ⟨h3, HR.out.2.1.swap i j1 (by rw [HR.out.2.2.1]; exact hil) (by rw [HR.out.2.2.1]; exact hj1m), by rw [swapL_length]; exact HR.out.2.2.1, (HQ.out.2.drewN mm2).trans c3 (Ext.refl _ _), HE.out.2⟩
          clear h3 c3 HE
          go_wp2_with fail
          go_roundg (gk - 1)
          case measure => have := HK.out; omega
          case rel => exact ⟨j1, swapL l i j1, rfl, by have := HK.out; have := HJ.out; have := HJ2.out; omega, hj1m, HT⟩
        · have HE : Aside0 (decide (keyF (run_ xs off n) (rd l i) < keyF (run_ xs off n) (rd l j1)) = false ∧ (l, i) = R) := ⟨by simpa using hl2, by
            rw [← HR.out.2.2.2.2, HD.out, HB.out.1, if_pos (by simpa using hl2)]⟩
          clear hl2
          go_wp2_with fail
          with_reducible refine (tlessR_calls wq t b off n cap xs l av HQ.out.1 j1 i (by rw [HR.out.2.2.1]; exact hj1m) (by rw [HR.out.2.2.1]; exact hil) HR.out.2.1 HX.out hn).mono ?_
          rintro r w2 ⟨rfl, mm2, rfl⟩
          rw [HE.out.1]
          have HF : Aside0 (TopsAt (wq.drewN mm2) t b off n cap xs R.1 av ∧ Chg w (wq.drewN mm2) (blkOf av) ∧ R.2 = i) := by
            rw [← HE.out.2]
            exact ⟨HQ.out.1.drew mm2, HQ.out.2.drewN mm2, rfl⟩
          clear HR HE HQ
          go_wp2_with fail
          go_returns
          exact ⟨by rw [HF.out.2.2]; simp, HF.out.1, HF.out.2.1⟩
end Go.Proofs.Ytiabenmgbikllaa.M

-- Q5
namespace Go.Proofs.Ytiabenmgbikllaa.M
set_option linter.unusedVariables false
open Go.RowKit Go.Proofs.YtiabenmgbikllaaW.PrintWords Go.Proofs.YtiabenmgbikllaaW.PrintLast Go.Proofs.YtiabenmgbikllaaW.PrintMore Go.Proofs.Ytiabenmgbikllaa.PAll
attribute [local go_sem] max2_int min2_int max_two min_two max_three min_three max_four min_four

def topN (ys : List Int) : Nat → Nat
  | 0 => 0
  | k + 1 => if absI (rd ys (topN ys k : Nat)) ≤ absI (rd ys (k : Nat)) then k else topN ys k
def dec1 (ys : List Int) (k : Nat) : List Int := ys.set k (if 0 < rd ys k then rd ys k - 1 else rd ys k + 1)
def thinN (ys : List Int) : Nat → List Int
  | 0 => ys
  | i + 1 => dec1 (thinN ys i) (topN (thinN ys i) ys.length)
theorem dec1_length (ys : List Int) (k : Nat) : (dec1 ys k).length = ys.length := by simp [dec1]
theorem thinN_length (ys : List Int) : ∀ i, (thinN ys i).length = ys.length
  | 0 => rfl
  | i + 1 => by show (dec1 _ _).length = _; rw [dec1_length, thinN_length ys i]
theorem topN_max (ys : List Int) : ∀ m : Nat, 1 ≤ m → m ≤ 1000 → topN ys m < m ∧ ∀ v : Nat, v < m → keyF ys v ≤ keyF ys (topN ys m : Nat)
  | 0, h, _ => absurd h (by omega)
  | 1, _, _ => by
    have e : topN ys 1 = 0 := by
      show (if absI (rd ys (0 : Nat)) ≤ absI (rd ys (0 : Nat)) then 0 else 0) = 0
      split <;> rfl
    rw [e]
    exact ⟨by omega, fun v hv => by rw [show v = 0 by omega]; omega⟩
  | m + 2, _, h => by
    obtain ⟨i1, i2⟩ := topN_max ys (m + 1) (by omega) (by omega)
    show (if absI (rd ys (topN ys (m + 1) : Nat)) ≤ absI (rd ys ((m + 1 : Nat) : Int)) then m + 1 else topN ys (m + 1)) < m + 2 ∧ ∀ v : Nat, v < m + 2 → keyF ys v ≤ keyF ys ((if absI (rd ys (topN ys (m + 1) : Nat)) ≤ absI (rd ys ((m + 1 : Nat) : Int)) then m + 1 else topN ys (m + 1) : Nat) : Int)
    by_cases hc : absI (rd ys (topN ys (m + 1) : Nat)) ≤ absI (rd ys ((m + 1 : Nat) : Int))
    · rw [if_pos hc]
      refine ⟨by omega, fun v hv => ?_⟩
      by_cases e : v = m + 1
      · rw [e]; omega
      · have := i2 v (by omega)
        unfold keyF at this ⊢
        omega
    · rw [if_neg hc]
      refine ⟨by omega, fun v hv => ?_⟩
      by_cases e : v = m + 1
      · rw [e]
        unfold keyF
        omega
      · exact i2 v (by omega)
theorem key_inj (ys : List Int) (m u v : Nat) (hu : u < m) (hv : v < m) (hm : m ≤ 1000) (h : keyF ys u = keyF ys v) : u = v := by
  unfold keyF at h
  omega
/-- The heap's first is the greatest, of several the last. -/
theorem heap_first (ys at_ : List Int) (m : Nat) (h1 : 1 ≤ m) (hm : m ≤ 1000) (he : Each at_ m) (hh : Heap (keyF ys) at_ m) : rd at_ (0 : Nat) = (topN ys m : Nat) := by
  obtain ⟨t1, t2⟩ := topN_max ys m h1 hm
  obtain ⟨i, hi, hv⟩ := he.onto (topN ys m) t1
  have a1 := heap_top (keyF ys) at_ m hh i i (by omega) hi
  rw [hv] at a1
  have r0 := he.rng 0 (by omega)
  obtain ⟨k, hk⟩ : ∃ k : Nat, rd at_ (0 : Nat) = k := ⟨(rd at_ (0 : Nat)).toNat, by omega⟩
  rw [hk] at a1 r0 ⊢
  have a2 := t2 k (by omega)
  have := key_inj ys m k (topN ys m) (by omega) t1 hm (by omega)
  rw [this]
theorem dec1_rd (ys : List Int) (k v : Nat) (hk : k < ys.length) : rd (dec1 ys k) v = if v = k then (if 0 < rd ys k then rd ys k - 1 else rd ys k + 1) else rd ys v := by
  unfold dec1
  exact rd_set ys k v _ hk
/-- After the first is made less the heap is made right by going down. -/
theorem heap_fixed (ys at_ : List Int) (m : Nat) (h1 : 1 ≤ m) (hl : ys.length = m) (he : Each at_ m) (hh : Heap (keyF ys) at_ m) (k : Nat) (hk : rd at_ (0 : Nat) = k) :
    Each (downL (keyF (dec1 ys k)) m m at_ 0).1 m ∧ Heap (keyF (dec1 ys k)) (downL (keyF (dec1 ys k)) m m at_ 0).1 m := by
  have hkm : k < m := by have := he.rng 0 (by omega); omega
  have hsame : ∀ c : Nat, 1 ≤ c → c < m → keyF (dec1 ys k) (rd at_ c) = keyF ys (rd at_ c) := by
    intro c c1 cm
    have hr := he.rng c cm
    obtain ⟨v, hv⟩ : ∃ v : Nat, rd at_ c = v := ⟨(rd at_ c).toNat, by omega⟩
    have hne : v ≠ k := fun hh => by have := he.inj c 0 cm (by omega) (by rw [hv, hk, hh]); omega
    rw [hv]
    unfold keyF
    rw [dec1_rd ys k v (by omega), if_neg hne]
  refine ⟨he.down m 0 (by omega), down_heap _ m m at_ 0 he.len (by omega) (by omega) ?_ (fun h => absurd h (by omega))⟩
  intro c c1 cm cp
  have hp := par_lt c c1
  rw [hsame c c1 cm, hsame (par c) (by omega) (by omega)]
  exact hh c c1 cm
/-- The heap as it is made, one place behind the other. -/
def pushL (f : Int → Int) : Nat → List Int
  | 0 => []
  | k + 1 => upL f k (pushL f k ++ [(k : Int)]) k
theorem push_ok (f : Int → Int) : ∀ k, Each (pushL f k) k ∧ Heap f (pushL f k) k
  | 0 => ⟨⟨rfl, fun i hi => absurd hi (by omega), fun i j hi => absurd hi (by omega)⟩, fun c _ hc => absurd hc (by omega)⟩
  | k + 1 => by
    obtain ⟨e, h⟩ := push_ok f k
    have hl := e.len
    have hrd : ∀ c : Nat, c < k → rd (pushL f k ++ [(k : Int)]) c = rd (pushL f k) c := fun c hc => by
      rw [← rd_eq, ← rd_eq]; simp [List.getD, List.getElem?_append_left (show c < (pushL f k).length by omega)]
    have hrk : rd (pushL f k ++ [(k : Int)]) k = k := by
      rw [← rd_eq]
      rw [List.getD, List.getElem?_append_right (by omega), hl]
      simp
    have he : Each (pushL f k ++ [(k : Int)]) (k + 1) := by
      refine ⟨by simp [hl], fun i hi => ?_, fun i j hi hj hij => ?_⟩
      · by_cases hc : i < k
        · rw [hrd i hc]; have := e.rng i hc; omega
        · rw [show i = k by omega, hrk]; omega
      · by_cases hci : i < k
        · by_cases hcj : j < k
          · rw [hrd i hci, hrd j hcj] at hij; exact e.inj i j hci hcj hij
          · rw [hrd i hci, show j = k by omega, hrk] at hij; have := e.rng i hci; omega
        · by_cases hcj : j < k
          · rw [hrd j hcj, show i = k by omega, hrk] at hij; have := e.rng j hcj; omega
          · omega
    refine ⟨he.up k k (by omega), up_heap f (k + 1) k _ k he.len (by omega) (by omega) ?_ ?_⟩
    · intro c c1 cm cn
      have hp := par_lt c c1
      rw [hrd c (by omega), hrd (par c) (by omega)]
      exact h c c1 (by omega)
    · intro c c1 cm cp
      have hp := par_lt c c1
      omega
theorem Each.inR {at_ : List Int} {m n : Nat} (h : Each at_ m) (hm : m ≤ n) : InR at_ n := fun k hk => by
  have := h.rng k (by rw [← h.len]; exact hk)
  omega
set_option maxHeartbeats 400000 in
set_option maxRecDepth 100000 in
theorem fix_calls (w : World) (t b off n cap : Nat) (xs at_ : List Int) (av : Value) (h : TopsAt w t b off n cap xs at_ av) (m : Nat) (hm : m = at_.length) (hj : 0 < m) (ha : Each at_ m) (hmn : m ≤ n) (hx : InX (run_ xs off n) n) (hn : n ≤ 100) :
    Calls Try.prog 132 #[.iface 129 (.pointer (some ⟨t, 0, none⟩)), .int .i64 0] w fun r w' => r = .returned (.tuple #[]) ∧ TopsAt w' t b off n cap xs (downL (keyF (run_ xs off n)) m m at_ 0).1 av ∧ Chg w w' (blkOf av) := by
  have HE := Aside0.mk (Each.down (f := keyF (run_ xs off n)) m 0 ha hj)
  have HH := Aside0.mk (And.intro h (And.intro (ha.inR hmn) hx))
  have HL := tlen_calls w t b off n cap xs at_ av h
  rw [← hm] at HL
  have HLa := Aside0.mk HL
  obtain ⟨R, hR⟩ : ∃ R, R = downL (keyF (run_ xs off n)) m m at_ 0 := ⟨_, rfl⟩
  have HR := Aside0.mk (And.intro hR hm)
  rw [← hR] at HE ⊢
  clear h ha hx HL hR hm
  go_enter Try.func132, Try.ntmps132
  go_wp2_with fail
  with_reducible refine HLa.out.mono ?_
  rintro r w1 ⟨rfl, rfl⟩
  go_wp2_with fail
  refine (down_calls w1 t b off n cap xs at_ av HH.out.1 0 m HR.out.2 hj HH.out.2.1 HH.out.2.2 hn (by omega)).mono ?_
  rintro r w2 ⟨rfl, h2, c2⟩
  rw [← HR.out.1] at h2 ⊢
  have H2 := Aside0.mk (And.intro h2 c2)
  clear h2 c2
  by_cases hz : 0 < R.2
  · have hb : decide (0 < R.2) = true := by simpa using hz
    rw [hb]
    clear hz hb
    go_wp2_with fail
    go_returns
    exact ⟨rfl, H2.out⟩
  · have hb : decide (0 < R.2) = false := by simpa using hz
    rw [hb]
    clear hz hb
    go_wp2_with fail
    refine (up_calls w2 t b off n cap xs R.1 av H2.out.1 0 (by rw [HE.out.len]; exact hj) (HE.out.inR hmn) HH.out.2.2 hn (by rw [HE.out.len]; omega)).mono ?_
    rintro r w3 ⟨rfl, h3, c3⟩
    have H3 : Aside0 (TopsAt w3 t b off n cap xs R.1 av ∧ Chg w1 w3 (blkOf av)) := ⟨h3, H2.out.2.trans c3 (Ext.refl _ _)⟩
    clear h3 c3
    go_wp2_with fail
    go_returns
    exact ⟨rfl, H3.out⟩
end Go.Proofs.Ytiabenmgbikllaa.M
