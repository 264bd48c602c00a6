/- The reader of bits in memory: made, symbols, small numbers. Conditions: bounds on the numbers. -/
import Derived.Test.YtiabenmgbikllaaD1
import Derived.Test.YtiabenmgbikllaaE5
import Derived.Test.YtiabenmgbikllaaE4
namespace Go.Proofs.Ytiabenmgbikllaa.M
set_option linter.unusedVariables false
open Go.RowKit Go.Proofs.YtiabenmgbikllaaW.PrintWords Go.Proofs.YtiabenmgbikllaaW.PrintLast Go.Proofs.YtiabenmgbikllaaW.PrintMore Go.Proofs.Ytiabenmgbikllaa.PAll
attribute [local go_sem] max2_int min2_int max_two min_two max_three min_three max_four min_four

/-- A reader lies in block g; its bytes lay in the world w0 already, of which nothing has changed. -/
def DecAt (w0 w : World) (g : Nat) (d : D) : Prop := IsS91 w0 w g d.b d.rng d.val d.last d.front d.back d.window d.waiting d.count d.bad ∧ Below w0.heap.size w0 w
theorem DecAt.ge {w0 w : World} {g : Nat} {d : D} (h : DecAt w0 w g d) : w0.heap.size ≤ g := h.1.ge
theorem DecAt.lt {w0 w : World} {g : Nat} {d : D} (h : DecAt w0 w g d) : g < w.heap.size := h.1.lt
theorem DecAt.chg {w0 w w1 : World} {g : Nat} {d : D} {S : Nat → Prop} (h : DecAt w0 w g d) (k : Chg w w1 S) (hg : ¬ S g) (hS : Ge w0.heap.size S) : DecAt w0 w1 g d := by
  obtain ⟨⟨A, c, hb, hge, hr⟩, hB⟩ := h
  exact ⟨⟨A, c, k.blk hb hg, hge, hr⟩, hB.trans (k.below hS hB.size)⟩
/-- What a printed contract of the reader gives. -/
theorem DecAt.of {w0 w w1 : World} {g : Nat} {d : D} (h : DecAt w0 w g d) (d' : D) (hb : d'.b = d.b) (hi : IsS91 w0 w1 g d.b d'.rng d'.val d'.last d'.front d'.back d'.window d'.waiting d'.count d'.bad) (hB : Below w0.heap.size w0 w1) (hk : KeepBut w w1 g none) :
    DecAt w0 w1 g d' ∧ Chg w w1 (One g) := ⟨⟨by rw [hb]; exact hi, hB⟩, Chg.of_keep h.2 hB hk⟩

theorem dsym_calls (w0 w : World) (g : Nat) (d : D) (t : List Int) (A : Option Addr) (c : Nat) (h : DecAt w0 w g d) (hd : DOk d) (ht : TabOk t) (hn : 0 < t.length) (hr : ReadsInt w .i64 A t.length t) (hc : t.length ≤ c)
    (hf : ∀ ad, A = some ad → ad.block ≠ g) (hk : d.count ≤ 900000000000000000) :
    Calls Try.prog 87 #[.pointer (some ⟨g, 0, none⟩), .slice A t.length c] w fun r w' => r = .returned (.int .i64 (d.symV t)) ∧ DecAt w0 w' g (d.sym t) ∧ Chg w w' (One g) :=
  (rc_Dec_Symbol.calls 300 g d.b d.rng d.val d.last d.front d.back d.window d.waiting d.count d.bad A c t _ _ _ _ _ _ _ _ _ _ w0 w h.1 h.2 (Kd.C_of_reads (d := 0) (readsInt_of.1 hr)) hc (fun ad ha _ => hf ad ha) (sym_f d hd t ht hn hk)).mono
    fun r w' ⟨h1, h2, h3, h4⟩ => ⟨h1, (h.of (d.sym t) (sym_ok d hd t ht hn hk).2.2.1 h2 h3 h4).1, (h.of (d.sym t) (sym_ok d hd t ht hn hk).2.2.1 h2 h3 h4).2⟩
theorem dchoose_calls (w0 w : World) (g : Nat) (d : D) (ft : Int) (h : DecAt w0 w g d) (hd : DOk d) (f0 : 1 ≤ ft) (f1 : ft ≤ 32768) :
    Calls Try.prog 122 #[.pointer (some ⟨g, 0, none⟩), .int .u64 ft] w fun r w' => r = .returned (.int .u64 (d.choose ft)) ∧ DecAt w0 w' g d ∧ Chg w w' (One g) :=
  (rc_Dec_choose.calls g d.b d.rng d.val d.last d.front d.back d.window d.waiting d.count d.bad ft _ _ _ _ _ _ _ _ _ _ w0 w h.1 h.2 (choose_f d hd ft f0 f1)).mono
    fun r w' ⟨h1, h2, h3, h4⟩ => ⟨h1, (h.of d rfl h2 h3 h4).1, (h.of d rfl h2 h3 h4).2⟩
theorem dtake_calls (w0 w : World) (g : Nat) (d : D) (fl fh ft : Int) (h : DecAt w0 w g d) (hd : DOk d) (hp : InPlace d fl fh ft) (hk : d.count ≤ 900000000000000000) :
    Calls Try.prog 123 #[.pointer (some ⟨g, 0, none⟩), .int .u64 fl, .int .u64 fh, .int .u64 ft] w fun r w' => r = .returned (.tuple #[]) ∧ DecAt w0 w' g (d.take fl fh ft) ∧ Chg w w' (One g) :=
  (rc_Dec_take.calls 4 g d.b d.rng d.val d.last d.front d.back d.window d.waiting d.count d.bad fl fh ft _ _ _ _ _ _ _ _ _ w0 w h.1 h.2 (take_f d hd fl fh ft hp hk 4 (by omega))).mono
    fun r w' ⟨h1, h2, h3, h4⟩ => ⟨h1, (h.of (d.take fl fh ft) (take_ok d hd fl fh ft hp hk).2.2 h2 h3 h4).1, (h.of (d.take fl fh ft) (take_ok d hd fl fh ft hp hk).2.2 h2 h3 h4).2⟩

/-- A small number. -/
def D.small (d : D) (ft : Int) : D := d.take (d.choose ft) (d.choose ft + 1) ft
theorem small_place (d : D) (h : DOk d) (ft : Int) (f0 : 1 ≤ ft) (f1 : ft ≤ 32768) : InPlace d (d.choose ft) (d.choose ft + 1) ft := by
  obtain ⟨p1, _⟩ := take_facts d.rng ft 0 ft h.r1 h.r2 (by omega) (by omega) (by omega) f1
  have hf := choose_range d.val (d.rng / ft) ft p1 h.v0 f0
  have h1 : 0 ≤ d.choose ft := hf.1
  have h2 : d.choose ft < ft := hf.2
  exact ⟨h1, by omega, by omega, f1, by omega, by omega⟩

set_option maxHeartbeats 1000000 in
set_option maxRecDepth 100000 in
theorem dsmall_calls (w0 w : World) (g : Nat) (d : D) (ft : Int) (h : DecAt w0 w g d) (hd : DOk d) (f0 : 2 ≤ ft) (f1 : ft ≤ 256) (hk : d.count ≤ 900000000000000000) :
    Calls Try.prog 81 #[.pointer (some ⟨g, 0, none⟩), .int .i64 ft] w fun r w' => r = .returned (.int .i64 (d.choose ft)) ∧ DecAt w0 w' g (d.small ft) ∧ Chg w w' (One g) := by
  have hp := small_place d hd ft (by omega) (by omega)
  have HH := Aside0.mk (And.intro h (And.intro hd hp))
  have w1 : IntKind.u64.wrap ft = ft := wraps_u64 _ (by omega) (by omega)
  obtain ⟨c0, c1, c2, _, _, _⟩ := hp
  have w2 : IntKind.u64.wrap (d.choose ft + 1) = d.choose ft + 1 := wraps_u64 _ (by omega) (by omega)
  clear h hd
  go_enter Try.func81, Try.ntmps81
  go_wp2_with (first
    | (go_at_call 122; refine (dchoose_calls w0 w g d ft HH.out.1 HH.out.2.1 (by omega) (by omega)).mono ?_; rintro r w1 ⟨rfl, h1, k1⟩; have H1 := Aside0.mk (And.intro h1 k1); clear h1 k1)
    | (go_at_call 123; refine (dtake_calls w0 _ g d (d.choose ft) (d.choose ft + 1) ft H1.out.1 HH.out.2.1 HH.out.2.2 hk).mono ?_; rintro r w2 ⟨rfl, h2, k2⟩; have H2 := Aside0.mk (And.intro h2 k2); clear h2 k2))
  go_returns
  exact ⟨rfl, H2.out.1, H1.out.2.trans H2.out.2 (Ext.refl _ _)⟩
end Go.Proofs.Ytiabenmgbikllaa.M
