/- How a loudness' change, and what repeats, are written. Conditions: bounds on the numbers. -/
import Derived.Test.YtiabenmgbikllaaG2
namespace Go.Proofs.Ytiabenmgbikllaa.M
set_option linter.unusedVariables false
open Go.RowKit Go.Proofs.YtiabenmgbikllaaW.PrintWords Go.Proofs.YtiabenmgbikllaaW.PrintLast Go.Proofs.YtiabenmgbikllaaW.PrintMore Go.Proofs.Ytiabenmgbikllaa.PAll
attribute [local go_sem] max2_int min2_int max_two min_two max_three min_three max_four min_four

def nextS (g was : Int) : Int := mn (mx (gcl g - gcl was + 8) 0) 16
theorem nextS_range (g was : Int) : 0 ≤ nextS g was ∧ nextS g was ≤ 16 := by
  unfold nextS mn mx
  split <;> split <;> omega
def E.next (e : E) (g was : Int) : E := e.symbol (nextS g was) (icdf 2)
set_option maxHeartbeats 1000000 in
set_option maxRecDepth 100000 in
theorem wnext_calls (w : World) (f : Nat → Prop) (g : Nat) (e : E) (x was : Int) (h : EncAt w f g e) (hk : EOk e) :
    Calls Try.prog 63 #[.pointer (some ⟨g, 0, none⟩), .int .i64 x, .int .i64 was] w fun r w' => r = .returned (.tuple #[.int .i64 (gcl (gcl was + nextS x was - 8)), .int .i64 0]) ∧ ∃ f', EncAt w' f' g (e.next x was) ∧ Chg w w' f ∧ Ext w f f' := by
  have HH := Aside0.mk (And.intro h hk)
  obtain ⟨x0, x1⟩ := gcl_range x
  obtain ⟨y0, y1⟩ := gcl_range was
  have hdef : nextS x was = mn (mx (gcl x - gcl was + 8) 0) 16 := rfl
  clear h hk
  by_cases hA : gcl x - gcl was + 8 < 0
  · have HS : Aside0 (nextS x was = 0) := ⟨by rw [hdef]; unfold mn mx; rw [if_pos hA]; rfl⟩
    clear hdef
    go_enter Try.func63, Try.ntmps63
    go_wp2_with fail
    refine (gclamp_calls w x).mono ?_
    rintro r w1 ⟨rfl, h1⟩
    go_wp2_with fail
    refine (gclamp_calls w1 was).mono ?_
    rintro r w2 ⟨rfl, h2⟩
    go_wp2_with fail
    rw [show (gcl was - 8 : Int) = gcl was + nextS x was - 8 from by rw [HS.out]; omega]
    refine (gclamp_calls w2 _).mono ?_
    rintro r w3 ⟨rfl, h3⟩
    go_wp2_with fail
    refine (icdf_calls w3 2 (by omega)).mono ?_
    rintro r w4 ⟨v4, rfl, h4⟩
    go_wp2_with fail
    refine (esym_at w3 w4 f g e 2 _ v4 (((HH.out.1.chg h1 (fun _ _ hh => hh)).chg h2 (fun _ _ hh => hh)).chg h3 (fun _ _ hh => hh)) HH.out.2 (by omega) h4 (by omega) (by show _ < (17 : Int); omega)).mono ?_
    rintro r w5 ⟨rfl, f5, h5⟩
    have H5 : Aside0 (∃ f', EncAt w5 f' g (e.next x was) ∧ Chg w w5 f ∧ Ext w f f') := ⟨⟨f5, by rw [E.next, HS.out]; exact h5.1, ((((Chg.refl w f).trans h1 (fun _ h => h.elim)).trans h2 (fun _ h => h.elim)).trans h3 (fun _ h => h.elim)).trans h5.2.1 (Ext.refl _ _), h5.2.2.le (Nat.le_trans (Nat.le_trans h1.size h2.size) h3.size)⟩⟩
    clear h1 h2 h3 h4 h5
    go_wp2_with fail
    go_returns
    exact ⟨rfl, H5.out⟩
  by_cases hB : 16 < gcl x - gcl was + 8
  · have HS : Aside0 (nextS x was = 16) := ⟨by rw [hdef]; unfold mn mx; rw [if_neg hA, if_pos hB]⟩
    clear hdef
    go_enter Try.func63, Try.ntmps63
    go_wp2_with fail
    refine (gclamp_calls w x).mono ?_
    rintro r w1 ⟨rfl, h1⟩
    go_wp2_with fail
    refine (gclamp_calls w1 was).mono ?_
    rintro r w2 ⟨rfl, h2⟩
    go_wp2_with fail
    rw [show (gcl was + 16 - 8 : Int) = gcl was + nextS x was - 8 from by rw [HS.out]]
    refine (gclamp_calls w2 _).mono ?_
    rintro r w3 ⟨rfl, h3⟩
    go_wp2_with fail
    refine (icdf_calls w3 2 (by omega)).mono ?_
    rintro r w4 ⟨v4, rfl, h4⟩
    go_wp2_with fail
    refine (esym_at w3 w4 f g e 2 _ v4 (((HH.out.1.chg h1 (fun _ _ hh => hh)).chg h2 (fun _ _ hh => hh)).chg h3 (fun _ _ hh => hh)) HH.out.2 (by omega) h4 (by omega) (by show _ < (17 : Int); omega)).mono ?_
    rintro r w5 ⟨rfl, f5, h5⟩
    have H5 : Aside0 (∃ f', EncAt w5 f' g (e.next x was) ∧ Chg w w5 f ∧ Ext w f f') := ⟨⟨f5, by rw [E.next, HS.out]; exact h5.1, ((((Chg.refl w f).trans h1 (fun _ h => h.elim)).trans h2 (fun _ h => h.elim)).trans h3 (fun _ h => h.elim)).trans h5.2.1 (Ext.refl _ _), h5.2.2.le (Nat.le_trans (Nat.le_trans h1.size h2.size) h3.size)⟩⟩
    clear h1 h2 h3 h4 h5
    go_wp2_with fail
    go_returns
    exact ⟨rfl, H5.out⟩
  · have HS : Aside0 (nextS x was = gcl x - gcl was + 8) := ⟨by rw [hdef]; unfold mn mx; rw [if_neg hA, if_neg hB]⟩
    clear hdef
    go_enter Try.func63, Try.ntmps63
    go_wp2_with fail
    refine (gclamp_calls w x).mono ?_
    rintro r w1 ⟨rfl, h1⟩
    go_wp2_with fail
    refine (gclamp_calls w1 was).mono ?_
    rintro r w2 ⟨rfl, h2⟩
    go_wp2_with fail
    rw [show (gcl was + (gcl x - gcl was + 8) - 8 : Int) = gcl was + nextS x was - 8 from by rw [HS.out]]
    refine (gclamp_calls w2 _).mono ?_
    rintro r w3 ⟨rfl, h3⟩
    go_wp2_with fail
    refine (icdf_calls w3 2 (by omega)).mono ?_
    rintro r w4 ⟨v4, rfl, h4⟩
    go_wp2_with fail
    refine (esym_at w3 w4 f g e 2 _ v4 (((HH.out.1.chg h1 (fun _ _ hh => hh)).chg h2 (fun _ _ hh => hh)).chg h3 (fun _ _ hh => hh)) HH.out.2 (by omega) h4 (by omega) (by show _ < (17 : Int); omega)).mono ?_
    rintro r w5 ⟨rfl, f5, h5⟩
    have H5 : Aside0 (∃ f', EncAt w5 f' g (e.next x was) ∧ Chg w w5 f ∧ Ext w f f') := ⟨⟨f5, by rw [E.next, HS.out]; exact h5.1, ((((Chg.refl w f).trans h1 (fun _ h => h.elim)).trans h2 (fun _ h => h.elim)).trans h3 (fun _ h => h.elim)).trans h5.2.1 (Ext.refl _ _), h5.2.2.le (Nat.le_trans (Nat.le_trans h1.size h2.size) h3.size)⟩⟩
    clear h1 h2 h3 h4 h5
    go_wp2_with fail
    go_returns
    exact ⟨rfl, H5.out⟩
end Go.Proofs.Ytiabenmgbikllaa.M
