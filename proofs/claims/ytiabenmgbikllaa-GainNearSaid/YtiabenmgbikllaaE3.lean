/- The writer of bits: symbols by a table. Conditions: bounds on the numbers, the symbol is in the table. -/
import Derived.Test.YtiabenmgbikllaaE2
import Derived.Test.YtiabenmgbikllaaPAllx1
namespace Go.Proofs.Ytiabenmgbikllaa.M
open Go.RowKit Go.Proofs.YtiabenmgbikllaaW.PrintWords Go.Proofs.YtiabenmgbikllaaW.PrintLast Go.Proofs.YtiabenmgbikllaaW.PrintMore Go.Proofs.Ytiabenmgbikllaa.PAll
attribute [local go_sem] max2_int min2_int max_two min_two max_three min_three max_four min_four

/-- The lower and the upper place of a symbol. -/
def symLo (t : List Int) (s : Int) : Int := if 0 < s then 256 - rd t (s - 1) else 0
def symHi (t : List Int) (s : Int) : Int := 256 - rd t s
def E.symbol (e : E) (s : Int) (t : List Int) : E := e.take (symLo t s) (symHi t s) 256
/-- A table whose symbols can be told, as the program asks and as the places want it. -/
structure TabOk (t : List Int) : Prop where
  good : tabs_Good.f 300 t = some true
  len : t.length ≤ 256
  lo : ∀ i : Nat, i < t.length → 0 ≤ t.getD i 0 ∧ t.getD i 0 ≤ 255
  dec : ∀ i : Nat, i + 1 < t.length → t.getD (i + 1) 0 < t.getD i 0
  last : t.getD (t.length - 1) 0 = 0
theorem TabOk.rd_range {t : List Int} (h : TabOk t) (s : Int) (h0 : 0 ≤ s) (h1 : s < t.length) : 0 ≤ rd t s ∧ rd t s ≤ 255 := h.lo s.toNat (by omega)
theorem TabOk.rd_dec {t : List Int} (h : TabOk t) (s : Int) (h0 : 1 ≤ s) (h1 : s < t.length) : rd t s < rd t (s - 1) := by
  have := h.dec (s - 1).toNat (by omega)
  rwa [show (s - 1).toNat + 1 = s.toNat by omega] at this
theorem TabOk.place {t : List Int} (h : TabOk t) (s : Int) (h0 : 0 ≤ s) (h1 : s < t.length) : 0 ≤ symLo t s ∧ symLo t s < symHi t s ∧ symHi t s ≤ 256 := by
  have a := h.rd_range s h0 h1
  unfold symLo symHi
  by_cases hs : 0 < s
  · rw [if_pos hs]
    have b := h.rd_range (s - 1) (by omega) (by omega)
    have c := h.rd_dec s (by omega) h1
    omega
  · rw [if_neg hs]; omega

set_option maxHeartbeats 1000000 in
set_option maxRecDepth 100000 in
theorem esymbol_calls (w : World) (f : Nat → Prop) (g : Nat) (e : E) (s : Int) (t : List Int) (A : Option Addr) (c : Nat) (h : EncAt w f g e) (hk : EOk e) (ht : TabOk t) (hr : ReadsInt w .i64 A t.length t) (hc : t.length ≤ c)
    (h0 : 0 ≤ s) (h1 : s < t.length) :
    Calls Try.prog 91 #[.pointer (some ⟨g, 0, none⟩), .int .i64 s, .slice A t.length c] w fun r w' => r = .returned (.int .i64 0) ∧ ∃ f', EncAt w' f' g (e.symbol s t) ∧ Chg w w' f ∧ Ext w f f' := by
  obtain ⟨ad, rfl, hx⟩ := hr.at_ s h0 h1
  have HP := Aside0.mk (ht.place s h0 h1)
  have HS := Aside0.mk h
  have HT := Aside0.mk ht
  have HR := Aside0.mk (show Kd.C (Kd.int .i64) w (some ad) t.length t from Kd.C_of_reads (d := 0) (readsInt_of.1 hr))
  have HK := Aside0.mk hk
  have hlen := ht.len
  have ra := ht.rd_range s h0 h1
  clear h ht hk
  have HD : Aside0 (∀ nd, EncAt (w.drewN nd) f g e) := ⟨fun nd => HS.out.chg ((Chg.refl w No).drewN nd) (fun _ _ hh => hh)⟩
  obtain ⟨ra1, ra2⟩ := ra
  have hi : symHi t s = 256 - rd t s := rfl
  have HI := Aside0.mk hi
  clear hi
  by_cases hs : 0 < s
  · obtain ⟨ad', ha, hx1⟩ := hr.at_ (s - 1) (by omega) (by omega)
    injection ha with ha
    subst ha
    rw [show (s - 1).toNat = s.toNat - 1 by omega] at hx1
    obtain ⟨rb1, rb2⟩ := HT.out.rd_range (s - 1) (by omega) (by omega)
    have HL := Aside0.mk (show symLo t s = 256 - rd t (s - 1) by rw [symLo, if_pos hs])
    clear hr
    go_enter Try.func91, Try.ntmps91
    go_wp2_with (go_at_call 126; with_reducible refine (tabs_Good.calls 300 _ c t true _ HR.out hc HT.out.good).mono ?_; rintro r w' ⟨rfl, ⟨nd, rfl⟩⟩)
    obtain ⟨nd, hnd⟩ : ∃ n, n = nd := ⟨_, rfl⟩
    subst hnd
    rw [← HL.out, ← HI.out]
    refine (etake_calls _ f g e (symLo t s) (symHi t s) 256 (HD.out _) HK.out HP.out.1 HP.out.2.1 HP.out.2.2 (by omega)).mono ?_
    rintro r w1 ⟨rfl, f', hE, hch, hxt⟩
    have HF : Aside0 (∃ f', EncAt w1 f' g (e.symbol s t) ∧ Chg w w1 f ∧ Ext w f f') := ⟨⟨f', hE, ((Chg.refl w f).drewN _).trans hch (Ext.refl _ _), hxt.le (Nat.le_refl _)⟩⟩
    clear hE hch hxt
    go_wp2
    go_returns
    exact ⟨rfl, HF.out⟩
  · have HL := Aside0.mk (show symLo t s = 0 by rw [symLo, if_neg hs])
    clear hr
    go_enter Try.func91, Try.ntmps91
    go_wp2_with (go_at_call 126; with_reducible refine (tabs_Good.calls 300 _ c t true _ HR.out hc HT.out.good).mono ?_; rintro r w' ⟨rfl, ⟨nd, rfl⟩⟩)
    rw [← HI.out]
    refine (etake_calls _ f g e 0 (symHi t s) 256 (HD.out _) HK.out (by omega) (by rw [← HL.out]; exact HP.out.2.1) HP.out.2.2 (by omega)).mono ?_
    rintro r w1 ⟨rfl, f', hE, hch, hxt⟩
    have HF : Aside0 (∃ f', EncAt w1 f' g (e.symbol s t) ∧ Chg w w1 f ∧ Ext w f f') := ⟨⟨f', by rw [E.symbol, HL.out]; exact hE, ((Chg.refl w f).drewN _).trans hch (Ext.refl _ _), hxt.le (Nat.le_refl _)⟩⟩
    clear hE hch hxt
    go_wp2
    go_returns
    exact ⟨rfl, HF.out⟩
end Go.Proofs.Ytiabenmgbikllaa.M
