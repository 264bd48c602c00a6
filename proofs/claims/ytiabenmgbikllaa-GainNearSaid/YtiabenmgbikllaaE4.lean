/- The writer of bits: made anew, numbers below 256, how much was told. Conditions: bounds on the numbers. -/
import Derived.Test.YtiabenmgbikllaaE3
import Derived.Test.YtiabenmgbikllaaShelf
namespace Go.Proofs.Ytiabenmgbikllaa.M
open Go.RowKit Go.Proofs.YtiabenmgbikllaaW.PrintWords Go.Proofs.YtiabenmgbikllaaW.PrintLast Go.Proofs.YtiabenmgbikllaaW.PrintMore Go.Proofs.Ytiabenmgbikllaa.PAll
attribute [local go_sem] max2_int min2_int max_two min_two max_three min_three max_four min_four

/-- A writer at first. -/
def E.new : E := ⟨[], 0, 2147483648, [], 0, 33⟩
theorem EOk.new : EOk E.new := ⟨by decide, by decide, by decide, by decide, by decide, by decide, by decide⟩
/-- One block. -/
def One (g : Nat) : Nat → Prop := fun b => b = g

set_option maxHeartbeats 1000000 in
set_option maxRecDepth 100000 in
theorem enew_calls (w : World) :
    Calls Try.prog 38 #[] w fun r w' => r = .returned (.pointer (some ⟨w.heap.size, 0, none⟩)) ∧ EncAt w' (One w.heap.size) w.heap.size E.new ∧ Chg w w' No := by
  go_enter Try.func38, Try.ntmps38
  go_wp2
  go_returns
  refine ⟨rfl, ⟨.slice none 0 0, .slice none 0 0, heap_alloc_new _ _, own_nil _ _ _ _, own_nil _ _ _ _, ne_nil _, rfl, (fun k hk => by cases hk), (fun k hk => by cases hk), ?_⟩, (Chg.refl w No).alloc _⟩
  intro b hb
  rw [hb]
  exact blk_lt (heap_alloc_new w _)

def E.uint (e : E) (v ft : Int) : E := if ft = 1 then e else e.take v (v + 1) ft

set_option maxHeartbeats 1000000 in
set_option maxRecDepth 100000 in
theorem euint_calls (w : World) (f : Nat → Prop) (g : Nat) (e : E) (v ft : Int) (h : EncAt w f g e) (hk : EOk e) (h0 : 0 ≤ v) (h1 : v < ft) (h2 : ft ≤ 256) :
    Calls Try.prog 119 #[.pointer (some ⟨g, 0, none⟩), .int .i64 v, .int .i64 ft] w fun r w' => r = .returned (.int .i64 0) ∧ ∃ f', EncAt w' f' g (e.uint v ft) ∧ Chg w w' f ∧ Ext w f f' := by
  by_cases h3 : ft = 1
  · have HF : Aside0 (∃ f', EncAt w f' g (e.uint v ft) ∧ Chg w w f ∧ Ext w f f') := ⟨⟨f, by rw [E.uint, if_pos h3]; exact h, Chg.refl w f, Ext.refl w f⟩⟩
    clear h hk
    subst h3
    go_enter Try.func119, Try.ntmps119
    go_wp2
    go_returns
    exact ⟨rfl, HF.out⟩
  · have HE : Aside0 (e.uint v ft = e.take v (v + 1) ft) := ⟨by rw [E.uint, if_neg h3]⟩
    have HH := Aside0.mk (And.intro h hk)
    clear h hk
    have h4 : (ft == 1) = false := by simpa using h3
    have w1 : IntKind.u64.wrap v = v := wraps_u64 _ (by omega) (by omega)
    have w2 : IntKind.u64.wrap (v + 1) = v + 1 := wraps_u64 _ (by omega) (by omega)
    have w3 : IntKind.u64.wrap ft = ft := wraps_u64 _ (by omega) (by omega)
    go_enter Try.func119, Try.ntmps119
    go_wp2_with fail
    refine (etake_calls _ f g e v (v + 1) ft HH.out.1 HH.out.2 h0 (by omega) (by omega) (by omega)).mono ?_
    rintro r w1 ⟨rfl, f', hE, hch, hxt⟩
    have HF : Aside0 (∃ f', EncAt w1 f' g (e.uint v ft) ∧ Chg w w1 f ∧ Ext w f f') := ⟨⟨f', by rw [HE.out]; exact hE, hch, hxt⟩⟩
    clear hE hch hxt
    go_wp2
    go_returns
    exact ⟨rfl, HF.out⟩

def E.tell (e : E) : Int := e.count - (Lib.bitLen e.rng.toNat : Int)
theorem bitLenAux_le : ∀ n x, Lib.bitLenAux n x ≤ n
  | 0, _ => Nat.le_refl _
  | n + 1, x => by
    have := bitLenAux_le n (x / 2)
    simp only [Lib.bitLenAux]
    split <;> omega
theorem bitLen_le (x : Nat) : Lib.bitLen x ≤ 64 := bitLenAux_le 64 x

set_option maxHeartbeats 1000000 in
set_option maxRecDepth 100000 in
theorem etell_calls (w : World) (f : Nat → Prop) (g : Nat) (e : E) (h : EncAt w f g e) (hk : EOk e) :
    Calls Try.prog 41 #[.pointer (some ⟨g, 0, none⟩)] w fun r w' => r = .returned (.int .i64 e.tell) ∧ ∃ n, w' = w.drewN n := by
  obtain ⟨vt, vr, h⟩ := h
  obtain ⟨r1, r2, v0, v1, hn, c0, c1⟩ := hk
  have k5 := h.c5
  have k2 := h.c2
  have hl := bitLen_le e.rng.toNat
  clear h
  go_enter Try.func41, Try.ntmps41
  go_wp2_with fail
  go_quiet ((go_at_call 82; exact Calls.quiet_of_same (Try.bits_Len64 e.rng _ (by omega) (by omega))))
  go_wp2
  go_returns
  exact ⟨rfl, _, rfl⟩
end Go.Proofs.Ytiabenmgbikllaa.M
