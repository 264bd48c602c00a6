/- Tables of probabilities, and how a loudness is written. Conditions: bounds on the numbers. -/
import Derived.Test.YtiabenmgbikllaaG1
import Derived.Test.YtiabenmgbikllaaD3
import Derived.Test.YtiabenmgbikllaaPAllx2
namespace Go.Proofs.Ytiabenmgbikllaa.M
set_option linter.unusedVariables false
open Go.RowKit Go.Proofs.YtiabenmgbikllaaW.PrintWords Go.Proofs.YtiabenmgbikllaaW.PrintLast Go.Proofs.YtiabenmgbikllaaW.PrintMore Go.Proofs.Ytiabenmgbikllaa.PAll
attribute [local go_sem] max2_int min2_int max_two min_two max_three min_three max_four min_four

/-- A table, looked over by program. -/
def tabB (t : List Int) : Bool :=
  decide (t.length ≤ 256) && (List.range t.length).all (fun i => decide (0 ≤ t.getD i 0) && decide (t.getD i 0 ≤ 255)) && (List.range (t.length - 1)).all (fun i => decide (t.getD (i + 1) 0 < t.getD i 0)) && decide (t.getD (t.length - 1) 0 = 0)
theorem tabOk_of (t : List Int) (hg : tabs_Good.f 300 t = some true) (h : tabB t = true) : TabOk t := by
  unfold tabB at h
  simp only [Bool.and_eq_true, List.all_eq_true, List.mem_range, decide_eq_true_eq] at h
  obtain ⟨⟨⟨h1, h2⟩, h3⟩, h4⟩ := h
  exact ⟨hg, h1, fun i hi => h2 i hi, fun i hi => h3 i (by omega), h4⟩
def icdf : Nat → List Int
  | 0 => [192, 96, 0]
  | 1 => [224, 192, 160, 128, 96, 64, 32, 0]
  | 2 => [252, 247, 240, 230, 214, 190, 150, 106, 66, 42, 26, 16, 10, 6, 4, 2, 0]
  | 3 => [240, 224, 208, 192, 176, 160, 144, 128, 112, 96, 80, 64, 48, 32, 16, 0]
  | 4 => [253, 244, 222, 170, 86, 34, 12, 3, 0]
  | 5 => [218, 180, 148, 122, 100, 82, 67, 54, 43, 34, 26, 19, 14, 10, 6, 3, 0]
  | _ => [205, 163, 128, 97, 70, 44, 20, 0]
theorem icdf_ok : ∀ i : Nat, i < 7 → TabOk (icdf i)
  | 0, _ => tabOk_of _ (by decide +kernel) (by decide +kernel)
  | 1, _ => tabOk_of _ (by decide +kernel) (by decide +kernel)
  | 2, _ => tabOk_of _ (by decide +kernel) (by decide +kernel)
  | 3, _ => tabOk_of _ (by decide +kernel) (by decide +kernel)
  | 4, _ => tabOk_of _ (by decide +kernel) (by decide +kernel)
  | 5, _ => tabOk_of _ (by decide +kernel) (by decide +kernel)
  | 6, _ => tabOk_of _ (by decide +kernel) (by decide +kernel)
  | n + 7, h => absurd h (by omega)
theorem icdf_f : ∀ i : Nat, i < 7 → tabs_Icdf.f i = some (icdf i)
  | 0, _ => rfl
  | 1, _ => rfl
  | 2, _ => rfl
  | 3, _ => rfl
  | 4, _ => rfl
  | 5, _ => rfl
  | 6, _ => rfl
  | n + 7, h => absurd h (by omega)
theorem icdf_pos (i : Nat) : 0 < (icdf i).length := by
  unfold icdf
  split <;> decide
/-- A table as a call hands it back: a slice in new memory. -/
def TabAt (w w' : World) (t : List Int) (v : Value) : Prop := ∃ A c, v = .slice A t.length c ∧ ReadsInt w' .i64 A t.length t ∧ t.length ≤ c ∧ (∀ ad, A = some ad → w.heap.size ≤ ad.block) ∧ Chg w w' No
theorem icdf_calls (w : World) (i : Nat) (hi : i < 7) : Calls Try.prog 88 #[.int .i64 i] w fun r w' => ∃ v, r = .returned v ∧ TabAt w w' (icdf i) v :=
  (tabs_Icdf.calls i _ w (icdf_f i hi)).mono fun r w' ⟨v, h1, h2, h3⟩ => by
    have ho := Kd.own_of_R h2
    obtain ⟨A, c, rfl⟩ := own_slice ho
    refine ⟨_, h1, A, c, rfl, readsInt_of.2 (own_reads_of' ho), own_le ho, fun ad ha => ?_, Chg.of_below h3 No⟩
    subst ha
    exact own_base ho ad.block rfl

theorem TabAt.keep {w w' : World} {t : List Int} {v : Value} (h : TabAt w w' t v) : Chg w w' No := by
  obtain ⟨_, _, _, _, _, _, h⟩ := h
  exact h

/-- A symbol is written by a table that was made on the spot. -/
theorem esym_at (w w1 : World) (f : Nat → Prop) (g : Nat) (e : E) (i : Nat) (s : Int) (v : Value) (h : EncAt w f g e) (hk : EOk e) (hi : i < 7) (ht : TabAt w w1 (icdf i) v) (h0 : 0 ≤ s) (h1 : s < (icdf i).length) :
    Calls Try.prog 91 #[.pointer (some ⟨g, 0, none⟩), .int .i64 s, v] w1 fun r w' => r = .returned (.int .i64 0) ∧ ∃ f', EncAt w' f' g (e.symbol s (icdf i)) ∧ Chg w w' f ∧ Ext w f f' := by
  obtain ⟨A, c, rfl, hr, hc, _, hch⟩ := ht
  exact (esymbol_calls w1 f g e s (icdf i) A c (h.chg hch (fun _ _ hh => hh)) hk (icdf_ok i hi) hr hc h0 h1).mono
    fun r w' ⟨hr, f', hE, hC, hX⟩ => ⟨hr, f', hE, (hch.mono (fun _ hh => hh.elim)).trans hC (Ext.refl _ _), hX.le hch.size⟩

def E.first (e : E) (g : Int) : E := (e.symbol (g / 8) (icdf 1)).uint (g % 8) 8
set_option maxHeartbeats 1000000 in
set_option maxRecDepth 100000 in
theorem wfirst_calls (w : World) (f : Nat → Prop) (g : Nat) (e : E) (x : Int) (h : EncAt w f g e) (hk : EOk e) (hk1 : EOk (e.symbol (x / 8) (icdf 1))) (x0 : 0 ≤ x) (x1 : x ≤ 63) :
    Calls Try.prog 62 #[.pointer (some ⟨g, 0, none⟩), .int .i64 x] w fun r w' => r = .returned (.int .i64 0) ∧ ∃ f', EncAt w' f' g (e.first x) ∧ Chg w w' f ∧ Ext w f f' := by
  have HH := Aside0.mk (And.intro h (And.intro hk hk1))
  clear h hk hk1
  go_enter Try.func62, Try.ntmps62
  go_wp2_with (first
    | (go_at_call 88; refine (icdf_calls _ 1 (by omega)).mono ?_; rintro r w1 ⟨v1, rfl, h1⟩; have H1 := Aside0.mk h1; clear h1)
    | (go_at_call 91; refine (esym_at w w1 f g e 1 (x / 8) v1 HH.out.1 HH.out.2.1 (by omega) H1.out (by omega) (by show _ < (8 : Int); omega)).mono ?_; rintro r w2 ⟨rfl, f2, h2⟩; have H2 := Aside0.mk h2; clear h2)
    | (go_at_call 119; refine (euint_calls w2 f2 g _ (x % 8) 8 H2.out.1 HH.out.2.2 (by omega) (by omega) (by omega)).mono ?_; rintro r w3 ⟨rfl, f3, h3⟩; have H3 := Aside0.mk h3; clear h3))
  go_returns
  exact ⟨rfl, f3, H3.out.1, H2.out.2.1.trans H3.out.2.1 H2.out.2.2, H2.out.2.2.trans H2.out.2.1.size H3.out.2.2⟩
end Go.Proofs.Ytiabenmgbikllaa.M
